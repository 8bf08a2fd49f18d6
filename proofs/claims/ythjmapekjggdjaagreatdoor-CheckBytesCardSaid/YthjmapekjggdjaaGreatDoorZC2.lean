/- Part 2 of the proof: the library of the walk and the walks, in build order; no condition. -/
import Derived.Test.YthjmapekjggdjaaGreatDoorZC1
set_option linter.unusedVariables false
set_option linter.unusedSimpArgs false
set_option linter.unusedSectionVars false
set_option maxRecDepth 100000
namespace Go.Fl
open Go Go.Proofs
theorem IG (a b c d : Int) (w : World) (h : 0 ≤ a ∧ a ≤ 1048576 ∧ 0 ≤ b ∧ b ≤ 1048576 ∧ 0 ≤ c ∧ c ≤ 1048576 ∧ 0 ≤ d ∧ d ≤ 1048576) :
  Calls Tryz.prog 75 #[.agg #[.int .i64 a, .int .i64 b], .agg #[.int .i64 c, .int .i64 d]] w (Ret w [] fun v L => L = [] ∧ v = .int .i64 (if a = c then b - d else a - c)) := by
 refine Ao (args := [_, _]) (L := []) Tryz.func75 rfl Tryz.ntmps75 rfl (Own.start _ _) ?_
 refine Zs ?_
 refine Zw (Ba rfl rfl rfl) fun g2 => ?_
 refine Zw (Ba rfl rfl rfl) fun g3 => ?_
 refine Za ?_
 refine Zx <| DC.seq <| Zs ?_
 refine Zf Bb ?_
 refine Zl AJ ?_
 refine Zf Bb ?_
 refine Zl AJ ?_
 refine Zo (BK rfl rfl rfl) ?_
 refine Zx ?_
 refine Zd (fun c1 => ?_) fun c1 => ?_
 ·refine Zs ?_
  refine Zf Bb ?_
  refine Zl AJ ?_
  refine Zf Bb ?_
  refine Zl AJ ?_
  refine Zo (Bv rfl rfl rfl (by omega)) ?_
  refine Za ?_
  refine Zx <| DC.ret <| Aa ?_
  refine Fin.weak (E' := [(4, _)]) ⟨rfl, trivial⟩ .nil ?_
  refine Zh ?_
  exact ⟨rfl, by rw [if_neg (by simpa using c1)]⟩
 refine DC.skip <| Fin.then <| Zs ?_
 refine Zf Bk ?_
 refine Zl AJ ?_
 refine Zf Bk ?_
 refine Zl AJ ?_
 refine Zo (Bv rfl rfl rfl (by omega)) ?_
 refine Za ?_
 refine Zx <| DC.ret ?_
 refine Fin.weak (E' := [(4, _)]) ⟨rfl, trivial⟩ .nil ?_
 refine Zh ?_
 exact ⟨rfl, by rw [if_pos (by simpa using c1)]⟩
theorem Eu (N : Int) (es : List Pr) (A : Option Addr) (cap : Nat) (w : World) (hr : Rd w A (prs es)) (hl : es.length ≤ 9223372036854775807) :
  Calls Tryz.prog 41 #[.agg #[.int .i64 N, .slice A es.length cap]] w (Ret w [] fun v L => L = [] ∧ ∃ b, v = .bool b ∧ (b = true ↔ Vld N es)) := by
 refine Ao (args := [_]) (L := []) Tryz.func41 rfl Tryz.ntmps41 rfl (Own.start _ _) ?_
 refine Zs ?_
 refine Zw (Ba rfl rfl rfl) fun g1 => ?_
 refine Za ?_
 refine Zx <| DC.seq <| Zs ?_
 refine Zf BI ?_
 refine Zl AJ ?_
 refine Zc ?_
 refine Zm ?_
 refine Seq.split 8 rfl (fun k1_3 => ?_) (fun k1_3 => ?_)
 ·refine Zk ?_
  iterate 2 refine Zk ?_
  refine Zt ?_
  refine Zm ?_
  iterate 4 refine Zk ?_
  refine Zt ?_
  refine Zx ?_
  refine AI rfl ?_
  refine Zs ?_
  refine Za ?_
  refine Zx <| DC.ret <| Aa ?_
  refine Fin.weak (E' := [(2, _)]) ⟨rfl, trivial⟩ .nil ?_
  refine Zh ?_
  exact ⟨rfl, false, rfl, by simp; intro h; have := h.lo; simp at k1_3; omega⟩
 refine Zf BI ?_
 refine Zl AJ ?_
 refine Zo (Bs rfl rfl rfl) ?_
 refine Zg ?_
 refine Zm ?_
 refine Seq.split 13 rfl (fun k1_8 => ?_) (fun k1_8 => ?_)
 ·refine Zk ?_
  iterate 3 refine Zk ?_
  refine Zt ?_
  refine Zx ?_
  refine AI rfl ?_
  refine Zs ?_
  refine Za ?_
  refine Zx <| DC.ret <| Aa ?_
  refine Fin.weak (E' := [(2, _)]) ⟨rfl, trivial⟩ .nil ?_
  refine Zh ?_
  exact ⟨rfl, false, rfl, by simp; intro h; have := h.hi; simp at k1_8; omega⟩
 refine Zf Be ?_
 refine Zl Bu ?_
 refine Zn TU ?_
 refine Zo (Bs rfl rfl rfl) ?_
 refine Zg ?_
 refine Zx ?_
 refine Zd (fun c1 => ?_) fun c1 => ?_
 ·refine Zs ?_
  refine Za ?_
  refine Zx <| DC.ret <| Aa ?_
  refine Fin.weak (E' := [(2, _)]) ⟨rfl, trivial⟩ .nil ?_
  refine Zh ?_
  exact ⟨rfl, false, rfl, by simp; intro h; have := h.few; simp at c1; omega⟩
 refine DC.skip <| Fin.then <| DC.seq <| Zs ?_
 refine Zf Be ?_
 refine Zl Bu ?_
 refine Zn TU ?_
 refine Zm ?_
 refine Zx <| DC.block ?_
 refine DC.loop (ι := Nat) (fun i => i ≤ es.length ∧ (∀ (j : Nat) e, j < i → es[j]? = some e → OkE N e) ∧ (∀ (j : Nat) a b, j + 1 < i → es[j]? = some a → es[j + 1]? = some b → Lex a b))
  (fun i => [(1, .pointer (some ⟨g1, 0, none⟩)), (20, .slice A es.length cap), (21, .int .i64 es.length), (22, .int .i64 i)])
  (fun i => [blk g1 24 #[.int .i64 N, .slice A es.length cap]]) (fun i => es.length - i) 0 ⟨Nat.zero_le _, fun _ _ h => absurd h (TS _), fun _ _ _ h => absurd h (TS _)⟩
  ⟨rfl, rfl, rfl, rfl, trivial⟩ (.cons 0 rfl .nil) ?_
 rintro i ⟨hi, hok, hup⟩
 refine Zs ?_
 refine Zc ?_
 refine Zx <| DC.seq ?_
 refine Zd (fun c4 => ?_) fun c4 => ?_
 ·have hlt : i < es.length := by simpa using c4
  obtain ⟨e, he⟩ : ∃ e, es[i]? = some e := ⟨_, Tz hlt⟩
  obtain ⟨ad, rfl, hU, hV⟩ := hr.pair he
  refine DC.skip <| Fin.then <| DC.seq <| DC.block <| Zs ?_
  refine Zm ?_
  refine Zo (AM rfl rfl rfl TU AY (by omega) (by omega) (by first | exact AC _ _ | exact Bj _ _ _ | rfl)) ?_
  refine Zu (Ay (vs := [_, _]) rfl rfl B3 AY rfl (Cv hU hV (by simp))) ?_
  refine Zw (AD rfl CE rfl) fun g4 => ?_
  refine Za ?_
  refine Zy (At (cs' := #[_, _]) rfl rfl rfl AY rfl (TB rfl) rfl) ?_
  refine Zx <| DC.seq ?_
  refine AF (cl := [.q, .v, .q, .q, .q, .v, .q, .v, .q, .q, .q, .q, .v, .q, .v, .q, .q, .q, .q, .q, .q, .q, .v, .q, .q, .q, .v, .v, .r, .q, .q, .q]) (A := [0, 1, 3, 7, 15, 31, 15, 79, 255, 511, 1023, 2047, 4095, 2047, 10239, 32767, 65535, 131071, 262143, 524287, 1048575, 2097151, 4194303, 2097151, 10485759, 33554431, 67108863, 2097151, 268435455, 536870911, 1073741823, 2147483647]) (order := [0, 1, 2, 3, 4, 5, 6, 7, 8, 9, 10, 11, 12, 13, 14, 15, 16, 17, 18, 19, 20, 21, 22, 23, 24, 25, 26, 27, 28, 29, 30, 31]) [] mixed (by kernel_rfl) (fun w hw => hw.pick .nil) ?_
  refine Yf Bb ?_
  refine Yl AJ ?_
  refine Yo rfl (E7 rfl rfl rfl) ?_
  refine Ym ?_
  refine Flow.split 30 rfl (fun k6_3 => ?_) (fun k6_3 => ?_)
  ·refine Yk ?_
   iterate 4 refine Yk ?_
   refine Yo rfl (A7 rfl rfl rfl) ?_
   refine Ym ?_
   iterate 5 refine Yk ?_
   refine Yo rfl (A7 rfl rfl rfl) ?_
   refine Ym ?_
   iterate 13 refine Yk ?_
   refine Yo rfl (A7 rfl rfl rfl) ?_
   refine Flow.end rfl ?_
   simp only [zq, zr]
   refine Fin.then ?_
   refine AI rfl ?_
   refine Zs ?_
   refine Za ?_
   refine Zx <| DC.ret <| Ae <| Aa <| Aa <| Ae <| Aa ?_
   refine Fin.weak (E' := [(2, _)]) ⟨rfl, trivial⟩ .nil ?_
   refine Zh ?_
   exact ⟨rfl, false, rfl, by simp; intro h; have := (h.ok i e he).lo; simp at k6_3; omega⟩
  refine Yf Bb ?_
  refine Yl AJ ?_
  refine Yf Bk ?_
  refine Yl AJ ?_
  refine Yo rfl (Cc rfl rfl rfl) ?_
  refine Yo rfl (AZ rfl rfl rfl) ?_
  refine Ym ?_
  refine Flow.split 37 rfl (fun k6_10 => ?_) (fun k6_10 => ?_)
  ·refine Yk ?_
   iterate 4 refine Yk ?_
   refine Yo rfl (A7 rfl rfl rfl) ?_
   refine Ym ?_
   iterate 13 refine Yk ?_
   refine Yo rfl (A7 rfl rfl rfl) ?_
   refine Flow.end rfl ?_
   simp only [zq, zr]
   refine Fin.then ?_
   refine AI rfl ?_
   refine Zs ?_
   refine Za ?_
   refine Zx <| DC.ret <| Ae <| Aa <| Aa <| Ae <| Aa ?_
   refine Fin.weak (E' := [(2, _)]) ⟨rfl, trivial⟩ .nil ?_
   refine Zh ?_
   exact ⟨rfl, false, rfl, by simp; intro h; have := (h.ok i e he).lt; simp at k6_10; omega⟩
  refine Yf Bk ?_
  refine Yl AJ ?_
  refine Yf BI ?_
  refine Yl AJ ?_
  refine Yo rfl (Cc rfl rfl rfl) ?_
  refine Yo rfl (AZ rfl rfl rfl) ?_
  refine Ym ?_
  refine Flow.split 44 rfl (fun k6_17 => ?_) (fun k6_17 => ?_)
  ·refine Yk ?_
   iterate 12 refine Yk ?_
   refine Yo rfl (A7 rfl rfl rfl) ?_
   refine Flow.end rfl ?_
   simp only [zq, zr]
   refine Fin.then ?_
   refine AI rfl ?_
   refine Zs ?_
   refine Za ?_
   refine Zx <| DC.ret <| Ae <| Aa <| Aa <| Ae <| Aa ?_
   refine Fin.weak (E' := [(2, _)]) ⟨rfl, trivial⟩ .nil ?_
   refine Zh ?_
   exact ⟨rfl, false, rfl, by simp; intro h; have := (h.ok i e he).hi; simp at k6_17; omega⟩
  refine Ym ?_
  refine Yo rfl (Bs rfl rfl rfl) ?_
  refine Ym ?_
  refine Flow.split 47 rfl (fun k6_20 => ?_) (fun k6_20 => ?_)
  ·have hpos : 0 < i := by simpa using k6_20
   obtain ⟨d, hd⟩ : ∃ d, es[i - 1]? = some d := ⟨_, Tz (by omega)⟩
   obtain ⟨ad', h', hU', hV'⟩ := hr.pair hd
   cases h'
   have h1 := hok (i - 1) d (by omega) hd
   have h1a := h1.lo
   have h1b := h1.lt
   have h1c := h1.hi
   have h2a : 0 ≤ e.1 := by simpa using k6_3
   have h2b : e.1 < e.2 := by simpa using k6_10
   have h2c : e.2 < N := by simpa using k6_17
   have h3 : N ≤ 1048576 := by simpa using k1_8
   have hii : ((i : Int) - 1).toNat = i - 1 := by omega
   refine Yf Be ?_
   refine Yl Bu ?_
   refine Ym ?_
   refine Yo rfl (Bv rfl rfl rfl (by omega)) ?_
   refine Yo rfl (AM (ad' := ad.add ((i - 1) * 2)) rfl rfl rfl TU AY (by omega) (by omega) (by rw [hii])) ?_
   refine Am rfl rfl rfl rfl (Ay (vs := [_, _]) rfl rfl B3 AY rfl (Cv hU' hV' (by simp))) ?_
   refine Am rfl rfl rfl rfl (Ay (vs := [_, _]) rfl rfl B3 AY rfl (Ak rfl)) ?_
   refine Flow.rel0 rfl rfl rfl rfl (Ar en75 rfl rfl rfl (fun w hw => IG d.1 d.2 e.1 e.2 w (by omega))) ?_
   rintro _ rfl
   refine Yo rfl (Cc rfl rfl rfl) ?_
   refine Yo rfl (A7 rfl rfl rfl) ?_
   refine Yo rfl (AZ rfl rfl rfl) ?_
   refine Flow.end rfl ?_
   simp only [zq, zr]
   refine Fin.then ?_
   refine Zd (fun c6 => ?_) fun c6 => ?_
   ·refine Zs ?_
    refine Za ?_
    refine Zx <| DC.ret <| Ae <| Aa <| Aa <| Ae <| Aa ?_
    refine Fin.weak (E' := [(2, _)]) ⟨rfl, trivial⟩ .nil ?_
    refine Zh ?_
    refine ⟨rfl, false, rfl, by simp; intro h; have := h.up (i - 1) d e hd (by rw [show i - 1 + 1 = i by omega]; exact he); unfold Lex at this; simp at c6; split at c6 <;> omega⟩
   refine DC.skip <| Fin.inBlock <| Fin.then <| DC.region ?_
   refine Zp ?_
   refine Zm ?_
   refine Seq.nil ?_
   refine Ag (i + 1) (by omega) ⟨by omega, ?_, ?_⟩ ⟨rfl, rfl, rfl, rfl, trivial⟩ (.cons 1 rfl .nil)
   ·intro j x hj hx
    rcases TE.1 hj with hj | rfl
    ·exact hok j x hj hx
    rw [he] at hx; cases hx; exact ⟨h2a, h2b, h2c⟩
   intro j a b hj ha hb
   rcases TE.1 hj with hj | hj
   ·exact hup j a b hj ha hb
   obtain rfl : j = i - 1 := by omega
   rw [hd] at ha; cases ha
   rw [show i - 1 + 1 = i by omega, he] at hb; cases hb
   unfold Lex
   simp at c6
   split at c6 <;> omega
  iterate 9 refine Yk ?_
  refine Yo rfl (AZ rfl rfl rfl) ?_
  refine Yo rfl (AZ rfl rfl rfl) ?_
  refine Flow.end rfl ?_
  simp only [zq, zr]
  refine Fin.then ?_
  refine AT rfl ?_
  refine DC.skip <| Fin.inBlock <| Fin.then <| DC.region ?_
  refine Zp ?_
  refine Zm ?_
  refine Seq.nil ?_
  have h0 : i = 0 := by simp at k6_20; omega
  subst h0
  have h2a : 0 ≤ e.1 := by simpa using k6_3
  have h2b : e.1 < e.2 := by simpa using k6_10
  have h2c : e.2 < N := by simpa using k6_17
  refine Ag 1 (by omega) ⟨by omega, ?_, ?_⟩ ⟨rfl, rfl, rfl, rfl, trivial⟩ (.cons 1 rfl .nil)
  ·intro j x hj hx
   obtain rfl : j = 0 := by omega
   rw [he] at hx; cases hx; exact ⟨h2a, h2b, h2c⟩
  intro j a b hj; omega
 refine DC.exit <| Ad <| Ad <| Ah <| Fin.then <| Zs ?_
 refine Za ?_
 refine Zx <| DC.ret ?_
 refine Fin.weak (E' := [(2, _)]) ⟨rfl, trivial⟩ .nil ?_
 refine Zh ?_
 have hie : i = es.length := by simp at c4; omega
 subst hie
 refine ⟨rfl, true, rfl, by simp; exact ⟨by simpa using k1_3, by simpa using k1_8, by simp at c1; omega, fun j e hj => hok j e (TA.1 hj).1 hj, fun j a b ha hb => hup j a b (TA.1 hb).1 ha hb⟩⟩
abbrev AV (w : World) := AdjV w 234 3
section
variable {N : Int} {es : List Pr} {M : AdjM} {p : Option Addr} {w : World}
theorem NJ (h : AV w N es M p) : Calls Tryz.prog 158 #[.pointer p] w (Ret w [] fun v L => L = [] ∧ v = .int .i64 N) := by
 refine Ao (args := [_]) (L := []) Tryz.func158 rfl Tryz.ntmps158 rfl (Own.start _ _) ?_
 refine Zs ?_
 refine Za ?_
 refine Zx <| DC.seq <| Zs ?_
 refine Zm ?_
 refine Zo (IY rfl rfl rfl Tryz.underlying200) ?_
 refine Zx ?_
 refine Zd (fun c1 => ?_) fun c1 => ?_
 ·cases h with
  | «at» hA hP => cases c1
  | nil hN he =>
  refine Zs ?_
  refine Za ?_
  refine Zx <| DC.ret <| Aa ?_
  refine Zh ?_
  subst hN; exact ⟨rfl, rfl⟩
 cases h with
 | nil hN he => cases c1
 | «at» hA hP =>
 have hlo := hP.vld.lo
 have hhi := hP.vld.hi
 have hsl := hP.stl
 refine DC.skip <| Fin.then <| Zs ?_
 refine Zm ?_
 refine Zo (AH rfl rfl) ?_
 refine Zf CY ?_
 refine Zu (Ai rfl rfl BA (Bc hA.hp rfl)) ?_
 refine Zn TT ?_
 refine Zo (Bv rfl rfl rfl (by omega)) ?_
 refine Za ?_
 refine Zx <| DC.ret ?_
 refine Zh ?_
 exact ⟨rfl, by congr 1; omega⟩
theorem Q9 (h : AV w N es M p) : Calls Tryz.prog 201 #[.pointer p] w (Ret w [] fun v L => L = [] ∧ v = .int .i64 es.length) := by
 refine Ao (args := [_]) (L := []) Tryz.func201 rfl Tryz.ntmps201 rfl (Own.start _ _) ?_
 refine Zs ?_
 refine Za ?_
 refine Zx <| DC.seq <| Zs ?_
 refine Zm ?_
 refine Zo (IY rfl rfl rfl Tryz.underlying200) ?_
 refine Zx ?_
 refine Zd (fun c1 => ?_) fun c1 => ?_
 ·cases h with
  | «at» hA hP => cases c1
  | nil hN he =>
  refine Zs ?_
  refine Za ?_
  refine Zx <| DC.ret <| Aa ?_
  refine Zh ?_
  subst he; exact ⟨rfl, rfl⟩
 cases h with
 | nil hN he => cases c1
 | «at» hA hP =>
 have hlo := hP.vld.few
 have hsl := hP.fr
 have hfl : M.fr.length = es.length * 2 := by rw [hsl, BH]
 refine DC.skip <| Fin.then <| Zs ?_
 refine Zm ?_
 refine Zo (AH rfl rfl) ?_
 refine Zf DA ?_
 refine Zu (Ai rfl rfl BA (Bc hA.hp rfl)) ?_
 refine Zn TT ?_
 refine Zo (IX rfl rfl rfl (by omega) (by omega)) ?_
 refine Za ?_
 refine Zx <| DC.ret ?_
 refine Zh ?_
 exact ⟨rfl, by congr 1; omega⟩
theorem Jq (h : AV w N es M p) (x : Int) : Calls Tryz.prog 192 #[.pointer p, .int .i64 x] w (Ret w [] fun v L => L = [] ∧ v = .bool (decide (0 ≤ x ∧ x < N))) := by
 refine Ao (args := [_, _]) (L := []) Tryz.func192 rfl Tryz.ntmps192 rfl (Own.start _ _) ?_
 refine Zs ?_
 refine Za ?_
 refine Zx <| Zs ?_
 refine Zm ?_
 refine Zo (Cc rfl rfl rfl) ?_
 refine Zm ?_
 refine Seq.split 7 rfl (fun k1_2 => ?_) (fun k1_2 => ?_)
 ·refine Zm ?_
  refine Zm ?_
  refine Seq.rel0 rfl rfl (Ar Rh rfl rfl rfl (fun w' hw => NJ (h.keep hw))) ?_
  rintro _ rfl
  refine Zc ?_
  refine Zt ?_
  refine Za ?_
  refine Zx <| DC.ret ?_
  refine Zh ?_
  exact ⟨rfl, by simp at k1_2; simp [k1_2]⟩
 iterate 4 refine Zk ?_
 refine Zg ?_
 refine Za ?_
 refine Zx <| DC.ret ?_
 refine Zh ?_
 exact ⟨rfl, by simp at k1_2; simp; omega⟩
theorem Fo (h : AV w N es M p) (x : Int) : Calls Tryz.prog 195 #[.pointer p, .int .i64 x] w (Ret w [] fun v L => L = [] ∧ v = .bool (decide (0 ≤ x ∧ x < es.length * 2))) := by
 have hfew := h.vld.few
 refine Ao (args := [_, _]) (L := []) Tryz.func195 rfl Tryz.ntmps195 rfl (Own.start _ _) ?_
 refine Zs ?_
 refine Za ?_
 refine Zx <| Zs ?_
 refine Zm ?_
 refine Zo (Cc rfl rfl rfl) ?_
 refine Zm ?_
 refine Seq.split 7 rfl (fun k1_2 => ?_) (fun k1_2 => ?_)
 ·refine Zm ?_
  refine Zm ?_
  refine Seq.rel0 rfl rfl (Ar SJ rfl rfl rfl (fun w' hw => Q9 (h.keep hw))) ?_
  rintro _ rfl
  refine Zo (Cl rfl rfl rfl (by omega)) ?_
  refine Zc ?_
  refine Zt ?_
  refine Za ?_
  refine Zx <| DC.ret ?_
  refine Zh ?_
  exact ⟨rfl, by simp at k1_2; congr 1; rw [decide_eq_decide]; omega⟩
 iterate 5 refine Zk ?_
 refine Zg ?_
 refine Za ?_
 refine Zx <| DC.ret ?_
 refine Zh ?_
 exact ⟨rfl, by simp at k1_2; simp; omega⟩
/-- What leave answers: where the list of a vertex lies. -/
def LeaveV (N : Int) (es : List Pr) (M : AdjM) (x : Int) (v : Value) : Prop :=
 ∃ A cap, v = .slice A (outs es x).length cap ∧ (outs es x).length ≤ cap ∧ cap ≤ 9223372036854775807 ∧ (0 < (outs es x).length → ∃ s, 0 ≤ x ∧ x < N ∧ M.st[x.toNat]? = some s ∧ A = some ⟨M.g2, s.toNat, none⟩)
theorem K7 (h : AV w N es M p) (x : Int) : Calls Tryz.prog 179 #[.pointer p, .int .i64 x] w (Ret w [] fun v L => L = [] ∧ LeaveV N es M x v) := by
 have hfew := h.vld.few
 have hNhi := h.vld.hi
 refine Ao (args := [_, _]) (L := []) Tryz.func179 rfl Tryz.ntmps179 rfl (Own.start _ _) ?_
 refine Zs ?_
 refine Za ?_
 refine Zx <| DC.seq <| Zs ?_
 iterate 2 refine Zm ?_
 refine Seq.rel0 rfl rfl (Ar SN rfl rfl rfl (fun w' hw => Jq (h.keep hw) x)) ?_
 rintro _ rfl
 refine Zo (Bd rfl rfl) ?_
 refine Zx ?_
 refine Zd (fun c1 => ?_) fun c1 => ?_
 ·refine Zs ?_
  refine Za ?_
  refine Zx <| DC.ret <| Aa ?_
  refine Zh ?_
  have h0 := HJ h.vld (v := x) (by simp at c1; omega)
  exact ⟨rfl, none, 0, by rw [h0]; rfl, by simp [h0], by omega, by simp [h0]⟩
 have hx : 0 ≤ x ∧ x < N := by simpa using c1
 cases h with
 | nil hN he => omega
 | «at» hA hP =>
 obtain ⟨hx0, hx1⟩ := hx
 obtain ⟨vx, rfl⟩ := TJ hx0
 have hstl := hP.stl
 have houl := hP.oul
 obtain ⟨s, hs⟩ : ∃ s, M.st[vx]? = some s := ⟨_, Tz (by omega)⟩
 have hs2 := hP.stn vx s hx1 hs
 have b1 := hP.bd _ _ hs
 have b2 := hP.bd _ _ hs2
 obtain ⟨sn, rfl⟩ := TJ b1.1
 refine DC.skip <| Fin.then <| DC.seq ?_
 refine AF (cl := [.q, .q, .q, .v, .q, .q, .q, .v, .q, .q, .v, .q, .q, .q, .v, .q, .q, .q, .v, .q, .q]) (A := [0, 1, 3, 7, 0, 16, 48, 112, 0, 496, 1008, 0, 2048, 6144, 14336, 0, 32768, 129024, 260096, 524287, 1048575]) (order := [0, 1, 2, 3, 4, 5, 6, 7, 8, 9, 10, 11, 12, 13, 14, 15, 16, 17, 18, 19, 20]) [] mixed (by kernel_rfl) (fun w hw => hw.pick .nil) ?_
 refine Ym ?_
 refine Yo rfl (AH rfl rfl) ?_
 refine Yf G9 ?_
 refine Am rfl rfl rfl rfl (Ai rfl rfl BA (Bc hA.hp rfl)) ?_
 refine Ym ?_
 refine Yo rfl (AH rfl rfl) ?_
 refine Yf CY ?_
 refine Am rfl rfl rfl rfl (Ai rfl rfl BA (Bc hA.hp rfl)) ?_
 refine Ym ?_
 refine Yo rfl (Aj rfl rfl rfl TT AQ (by omega) (by omega) (by first | exact AC _ _ | exact Bj _ _ _ | rfl)) ?_
 refine Am rfl rfl rfl rfl (Ai rfl rfl AJ (Bc hA.h1 (BQ hs))) ?_
 refine Ym ?_
 refine Yo rfl (AH rfl rfl) ?_
 refine Yf CY ?_
 refine Am rfl rfl rfl rfl (Ai rfl rfl BA (Bc hA.hp rfl)) ?_
 refine Ym ?_
 refine Yo rfl (CI rfl rfl rfl (by omega)) ?_
 refine Yo rfl (Aj rfl rfl rfl TT AQ (by omega) (by omega) (by first | exact AC _ _ | exact Bj _ _ _ | rfl)) ?_
 refine Am rfl rfl rfl rfl (Ai rfl rfl AJ (Bc hA.h1 (BQ hs2))) ?_
 refine Yo rfl (QE (lo := sn) (hi := sn + (outs es vx).length) rfl rfl rfl rfl TT AQ (by omega) (by omega)) ?_
 refine Yo rfl (AR rfl rfl) ?_
 refine Flow.end rfl ?_
 simp only [zq, zr]
 refine Fin.then <| DC.ret ?_
 refine Zh ?_
 refine ⟨rfl, _, _, by rw [show sn + (outs es (vx : Int)).length - sn = (outs es (vx : Int)).length by omega], by omega, by omega, fun hpos => ⟨sn, hx0, hx1, hs, ?_⟩⟩
 rw [if_neg (by omega)]
 simp [Bj]
theorem CO (h : AV w N es M p) (x : Int) : Calls Tryz.prog 159 #[.pointer p, .int .i64 x] w (Ret w [] fun v L => L = [] ∧ v = .int .i64 (outs es x).length) := by
 refine Ao (args := [_, _]) (L := []) Tryz.func159 rfl Tryz.ntmps159 rfl (Own.start _ _) ?_
 refine Zs ?_
 refine Za ?_
 refine Zx <| Zs ?_
 iterate 2 refine Zm ?_
 refine Seq.rel0 rfl rfl (Ar SP rfl rfl rfl (fun w' hw => K7 (h.keep hw) x)) ?_
 rintro _ ⟨A, cap, rfl, hcap, hmax, hA⟩
 refine Zn TT ?_
 refine Za ?_
 refine Zx <| DC.ret ?_
 refine Zh ?_
 exact ⟨rfl, rfl⟩
theorem Cf (h : AV w N es M p) (x : Int) : Calls Tryz.prog 182 #[.pointer p, .int .i64 x] w (Ret w [] fun v L => L = [] ∧ v = .int .i64 (fromV es x)) := by
 refine Ao (args := [_, _]) (L := []) Tryz.func182 rfl Tryz.ntmps182 rfl (Own.start _ _) ?_
 refine Zs ?_
 refine Za ?_
 refine Zx <| DC.seq <| Zs ?_
 iterate 2 refine Zm ?_
 refine Seq.rel0 rfl rfl (Ar PR rfl rfl rfl (fun w' hw => Fo (h.keep hw) x)) ?_
 rintro _ rfl
 refine Zo (Bd rfl rfl) ?_
 refine Zx ?_
 refine Zd (fun c1 => ?_) fun c1 => ?_
 ·refine Zs ?_
  refine Za ?_
  refine Zx <| DC.ret <| Aa ?_
  refine Zh ?_
  exact ⟨rfl, by rw [I9 es (by simp at c1; omega)]⟩
 have hx : 0 ≤ x ∧ x < es.length * 2 := by simpa using c1
 cases h with
 | nil hN he => subst he; simp at hx; omega
 | «at» hA hP =>
 have hfl : M.fr.length = es.length * 2 := by rw [hP.fr, BH]
 obtain ⟨y, hy, hf⟩ := FR es hx.1 hx.2
 rw [← hP.fr] at hy
 refine DC.skip <| Fin.then <| Zs ?_
 refine Zm ?_
 refine Zo (AH rfl rfl) ?_
 refine Zf DA ?_
 refine Zu (Ai rfl rfl BA (Bc hA.hp rfl)) ?_
 refine Zm ?_
 refine Zi TT AQ ?_
 refine Zu (Ai rfl rfl AJ (Bc hA.h0 (BQ hy))) ?_
 refine Za ?_
 refine Zx <| DC.ret ?_
 refine Zh ?_
 exact ⟨rfl, by rw [hf]⟩
theorem Du (h : AV w N es M p) (x : Int) : Calls Tryz.prog 181 #[.pointer p, .int .i64 x] w (Ret w [] fun v L => L = [] ∧ v = .int .i64 (toV es x)) := by
 have hfew := h.vld.few
 refine Ao (args := [_, _]) (L := []) Tryz.func181 rfl Tryz.ntmps181 rfl (Own.start _ _) ?_
 refine Zs ?_
 refine Za ?_
 refine Zx <| DC.seq <| Zs ?_
 iterate 2 refine Zm ?_
 refine Seq.rel0 rfl rfl (Ar PR rfl rfl rfl (fun w' hw => Fo (h.keep hw) x)) ?_
 rintro _ rfl
 refine Zo (Bd rfl rfl) ?_
 refine Zx ?_
 refine Zd (fun c1 => ?_) fun c1 => ?_
 ·refine Zs ?_
  refine Za ?_
  refine Zx <| DC.ret <| Aa ?_
  refine Zh ?_
  exact ⟨rfl, by rw [Qs es (by simp at c1; omega)]⟩
 have hx : 0 ≤ x ∧ x < es.length * 2 := by simpa using c1
 cases h with
 | nil hN he => subst he; simp at hx; omega
 | «at» hA hP =>
 have hfl : M.fr.length = es.length * 2 := by rw [hP.fr, BH]
 have htw := Hg hx.1 hx.2
 obtain ⟨y, hy, hf⟩ := FR es htw.1 htw.2
 rw [← hP.fr] at hy
 have htw' := htw
 unfold tw at htw'
 refine DC.skip <| Fin.then <| Zs ?_
 refine Zm ?_
 refine Zo (AH rfl rfl) ?_
 refine Zf DA ?_
 refine Zu (Ai rfl rfl BA (Bc hA.hp rfl)) ?_
 refine Zm ?_
 refine Zo (HE rfl rfl rfl (by omega)) ?_
 refine Zo (Aj (ad' := ⟨M.g0, (tw x).toNat, none⟩) rfl rfl rfl TT AQ htw'.1 (by have := htw'.2; omega) (by rw [AC]; simp [tw])) ?_
 refine Zu (Ai rfl rfl AJ (Bc hA.h0 (BQ hy))) ?_
 refine Za ?_
 refine Zx <| DC.ret ?_
 refine Zh ?_
 exact ⟨rfl, by unfold toV; rw [if_pos hx.1, hf]⟩
theorem LS (h : AV w N es M p) (x : Int) : Calls Tryz.prog 193 #[.pointer p, .int .i64 x] w (Ret w [] fun v L => L = [] ∧ v = .int .i64 ((outs es x)[0]?.getD (-1))) := by
 have hfew := h.vld.few
 refine Ao (args := [_, _]) (L := []) Tryz.func193 rfl Tryz.ntmps193 rfl (Own.start _ _) ?_
 refine Zs ?_
 refine Za ?_
 refine Zx <| DC.seq <| Zs ?_
 iterate 2 refine Zm ?_
 refine Seq.rel0 rfl rfl (Ar Ly rfl rfl rfl (fun w' hw => CO (h.keep hw) x)) ?_
 rintro _ rfl
 refine Zo (AN rfl rfl rfl) ?_
 refine Zx ?_
 refine Zd (fun c1 => ?_) fun c1 => ?_
 ·refine Zs ?_
  refine Za ?_
  refine Zx <| DC.ret <| Aa ?_
  refine Zh ?_
  have h0 : outs es x = [] := by simpa using c1
  exact ⟨rfl, by rw [h0]; rfl⟩
 have h0 : outs es x ≠ [] := by simpa using c1
 have hx : 0 ≤ x ∧ x < N := Classical.byContradiction fun hn => h0 (HJ h.vld hn)
 cases h with
 | nil hN he => omega
 | «at» hA hP =>
 obtain ⟨hx0, hx1⟩ := hx
 obtain ⟨vx, rfl⟩ := TJ hx0
 have hstl := hP.stl
 have houl := hP.oul
 have hlen : 0 < (outs es vx).length := List.length_pos_iff.2 h0
 obtain ⟨s, hs⟩ : ∃ s, M.st[vx]? = some s := ⟨_, Tz (by omega)⟩
 have b1 := hP.bd _ _ hs
 obtain ⟨sn, rfl⟩ := TJ b1.1
 obtain ⟨y, hy⟩ : ∃ y, (outs es (vx : Int))[0]? = some y := ⟨_, Tz hlen⟩
 obtain ⟨ho, _⟩ := hP.ou vx _ hx1 hs 0 y hy
 have hin := (TA.1 ho).1
 simp only [TC, Nat.add_zero] at ho hin
 refine DC.skip <| Fin.then <| DC.seq ?_
 refine AF (cl := [.q, .q, .q, .v, .q, .q, .q, .v, .q, .q, .v, .q, .v, .q]) (A := [0, 1, 3, 7, 0, 16, 48, 112, 0, 496, 1008, 2047, 4095, 8191]) (order := [0, 1, 2, 3, 4, 5, 6, 7, 8, 9, 10, 11, 12, 13]) [] mixed (by kernel_rfl) (fun w hw => hw.pick .nil) ?_
 refine Ym ?_
 refine Yo rfl (AH rfl rfl) ?_
 refine Yf G9 ?_
 refine Am rfl rfl rfl rfl (Ai rfl rfl BA (Bc hA.hp rfl)) ?_
 refine Ym ?_
 refine Yo rfl (AH rfl rfl) ?_
 refine Yf CY ?_
 refine Am rfl rfl rfl rfl (Ai rfl rfl BA (Bc hA.hp rfl)) ?_
 refine Ym ?_
 refine Yo rfl (Aj rfl rfl rfl TT AQ (by omega) (by omega) (by first | exact AC _ _ | exact Bj _ _ _ | rfl)) ?_
 refine Am rfl rfl rfl rfl (Ai rfl rfl AJ (Bc hA.h1 (BQ hs))) ?_
 refine Yo rfl (Aj rfl rfl rfl TT AQ (by omega) (by omega) (by first | exact AC _ _ | exact Bj _ _ _ | rfl)) ?_
 refine Am rfl rfl rfl rfl (Ai rfl rfl AJ (Bc hA.h2 (BQ ho))) ?_
 refine Yo rfl (AR rfl rfl) ?_
 refine Flow.end rfl ?_
 simp only [zq, zr]
 refine Fin.then <| DC.ret ?_
 refine Zh ?_
 exact ⟨rfl, by rw [hy]; rfl⟩
theorem LV (h : AV w N es M p) (x : Int) : Calls Tryz.prog 194 #[.pointer p, .int .i64 x] w (Ret w [] fun v L => L = [] ∧ ∃ r, v = .int .i64 r ∧
  (∀ (u : Int) (k : Nat), (outs es u)[k]? = some x → r = (outs es u)[k + 1]?.getD (-1)) ∧ (¬ (0 ≤ x ∧ x < es.length * 2) → r = -1)) := by
 have hfew := h.vld.few
 refine Ao (args := [_, _]) (L := []) Tryz.func194 rfl Tryz.ntmps194 rfl (Own.start _ _) ?_
 refine Zs ?_
 refine Za ?_
 refine Zx <| DC.seq <| Zs ?_
 iterate 2 refine Zm ?_
 refine Seq.rel0 rfl rfl (Ar PR rfl rfl rfl (fun w' hw => Fo (h.keep hw) x)) ?_
 rintro _ rfl
 refine Zo (Bd rfl rfl) ?_
 refine Zx ?_
 refine Zd (fun c1 => ?_) fun c1 => ?_
 ·refine Zs ?_
  refine Za ?_
  refine Zx <| DC.ret <| Aa ?_
  refine Zh ?_
  have hx : ¬ (0 ≤ x ∧ x < es.length * 2) := by simp at c1; omega
  refine ⟨rfl, -1, rfl, fun u k hk => ?_, fun _ => rfl⟩
  have := (Bl h.vld).1 (TD hk)
  exact absurd ⟨this.1, this.2.1⟩ hx
 have hx : 0 ≤ x ∧ x < es.length * 2 := by simpa using c1
 cases h with
 | nil hN he => subst he; simp at hx; omega
 | «at» hA hP =>
 have hfl : M.fr.length = es.length * 2 := by rw [hP.fr, BH]
 have hstl := hP.stl
 have houl := hP.oul
 have hpll := hP.pll
 have hhi := hP.vld.hi
 obtain ⟨y, hy, hf⟩ := FR es hx.1 hx.2
 rw [← hP.fr] at hy
 have hmem := (Bl hP.vld).2 ⟨hx.1, hx.2, hf⟩
 obtain ⟨k, hk⟩ := List.getElem?_of_mem hmem
 have hyr : 0 ≤ y ∧ y < N := Classical.byContradiction fun hn => by rw [HJ hP.vld hn] at hk; simp at hk
 obtain ⟨vx, rfl⟩ := TJ hyr.1
 obtain ⟨s, hs⟩ : ∃ s, M.st[vx]? = some s := ⟨_, Tz (by omega)⟩
 have hs2 := hP.stn vx s hyr.2 hs
 have b1 := hP.bd _ _ hs
 have b2 := hP.bd _ _ hs2
 obtain ⟨sn, rfl⟩ := TJ b1.1
 obtain ⟨ho, hpl⟩ := hP.ou vx _ hyr.2 hs k x hk
 have hkl := (TA.1 hk).1
 have huniq : ∀ (u : Int) (j : Nat), (outs es u)[j]? = some x → u = vx ∧ j = k := by
  intro u j hj
  have hu := (Bl hP.vld).1 (TD hj)
  have : u = vx := by rw [← hu.2.2, hf]
  subst this
  have h2 := (hP.ou vx _ hyr.2 hs j x hj).2
  rw [hpl] at h2
  have := Option.some.inj h2
  exact ⟨rfl, by omega⟩
 refine DC.skip <| Fin.then <| Zs ?_
 refine Zm ?_
 refine Zo (AH rfl rfl) ?_
 refine Zf Ny ?_
 refine Zu (Ai rfl rfl BA (Bc hA.hp rfl)) ?_
 refine Zm ?_
 refine Zi TT AQ ?_
 refine Zu (Ai rfl rfl AJ (Bc hA.h3 (BQ hpl))) ?_
 refine Zp ?_
 refine Za ?_
 refine Zx <| DC.seq <| DC.seq ?_
 refine AF (cl := [.q, .q, .q, .q, .v, .q, .q, .q, .v, .q, .q, .v, .q, .q, .v, .q]) (A := [0, 0, 2, 6, 14, 0, 32, 96, 224, 0, 992, 2016, 4064, 8190, 16382, 32767]) (order := [0, 1, 2, 3, 4, 5, 6, 7, 8, 9, 10, 11, 12, 13, 14, 15]) [] mixed (by kernel_rfl) (fun w hw => hw.pick .nil) ?_
 iterate 2 refine Ym ?_
 refine Yo rfl (AH rfl rfl) ?_
 refine Yf CY ?_
 refine Am rfl rfl rfl rfl (Ai rfl rfl BA (Bc hA.hp rfl)) ?_
 refine Ym ?_
 refine Yo rfl (AH rfl rfl) ?_
 refine Yf DA ?_
 refine Am rfl rfl rfl rfl (Ai rfl rfl BA (Bc hA.hp rfl)) ?_
 refine Ym ?_
 refine Yo rfl (Aj rfl rfl rfl TT AQ (by omega) (by omega) (by first | exact AC _ _ | exact Bj _ _ _ | rfl)) ?_
 refine Am rfl rfl rfl rfl (Ai rfl rfl AJ (Bc hA.h0 (BQ hy))) ?_
 refine Yo rfl (CI rfl rfl rfl (by omega)) ?_
 refine Yo rfl (Aj rfl rfl rfl TT AQ (by omega) (by omega) (by first | exact AC _ _ | exact Bj _ _ _ | rfl)) ?_
 refine Am rfl rfl rfl rfl (Ai rfl rfl AJ (Bc hA.h1 (BQ hs2))) ?_
 refine Yo rfl (Cc rfl rfl rfl) ?_
 refine Flow.end rfl ?_
 simp only [zq, zr]
 refine Fin.then ?_
 refine Zd (fun c4 => ?_) fun c4 => ?_
 ·refine Zs ?_
  refine Za ?_
  refine Zx <| DC.ret <| Aa ?_
  refine Zh ?_
  have hlast : k + 1 = (outs es (vx : Int)).length := by simp at c4; omega
  refine ⟨rfl, -1, rfl, fun u j hj => ?_, fun hn => absurd hx hn⟩
  obtain ⟨rfl, rfl⟩ := huniq u j hj
  rw [TQ (by omega)]; rfl
 have hnl : k + 1 < (outs es (vx : Int)).length := by simp at c4; omega
 obtain ⟨z, hz⟩ : ∃ z, (outs es (vx : Int))[k + 1]? = some z := ⟨_, Tz hnl⟩
 obtain ⟨ho2, _⟩ := hP.ou vx _ hyr.2 hs (k + 1) z hz
 have hin := (TA.1 ho2).1
 simp only [TC] at ho2 hin
 refine DC.skip <| Fin.then <| Zs ?_
 refine Zm ?_
 refine Zo (AH rfl rfl) ?_
 refine Zf G9 ?_
 refine Zu (Ai rfl rfl BA (Bc hA.hp rfl)) ?_
 refine Zm ?_
 refine Zo (Aj (ad' := ⟨M.g2, sn + (k + 1), none⟩) rfl rfl rfl TT AQ (by omega) (by omega) (by rw [AC]; first | rfl | (congr 1; omega))) ?_
 refine Zu (Ai rfl rfl AJ (Bc hA.h2 (BQ ho2))) ?_
 refine Za ?_
 refine Zx <| DC.ret ?_
 refine Zh ?_
 refine ⟨rfl, z, rfl, fun u j hj => ?_, fun hn => absurd hx hn⟩
 obtain ⟨rfl, rfl⟩ := huniq u j hj
 rw [hz]; rfl
end
end Go.Fl

namespace Go.Fl
open Go Go.Proofs
/-- What the closure of csr.New works on. -/
def putL (gn ga gp g0 g1 gx g2 g3 capx : Nat) (fr st nx ou pl : List Int) (sp : List Value) : List Chunk :=
 [blk gn 44 #[.slice (some ⟨gx, 0, none⟩) nx.length capx], blk ga 200 #[.pointer (some ⟨gp, 0, none⟩)], blk gp 234 #[sl g0 fr, sl g1 st, sl g2 ou, sl g3 pl],
   blk g0 3 (ints fr).toArray, blk gx 3 (ints nx ++ sp).toArray, blk g2 3 (ints ou).toArray, blk g3 3 (ints pl).toArray]
theorem IU {gn ga gp g0 g1 gx g2 g3 capx : Nat} {fr st nx ou pl : List Int} {sp : List Value} {h u p : Int} {w : World}
  (hO : Own w (idsOf (putL gn ga gp g0 g1 gx g2 g3 capx fr st nx ou pl sp)) w (putL gn ga gp g0 g1 gx g2 g3 capx fr st nx ou pl sp))
  (h0 : 0 ≤ h) (hfr : fr[h.toNat]? = some u) (hu : 0 ≤ u) (hnx : nx[u.toNat]? = some p) (hp0 : 0 ≤ p) (hp1 : p.toNat < ou.length) (hh : h.toNat < pl.length) (hb : p < 9223372036854775807) :
  Calls Tryz.prog 157 #[.int .i64 h, .pointer (some ⟨gn, 0, none⟩), .pointer (some ⟨ga, 0, none⟩)] w
   (Ret w (idsOf (putL gn ga gp g0 g1 gx g2 g3 capx fr st nx ou pl sp)) fun v M => v = .tuple #[] ∧
    M = putL gn ga gp g0 g1 gx g2 g3 capx fr st (nx.set u.toNat (p + 1)) (ou.set p.toNat h) (pl.set h.toNat p) sp) := by
 have i1 := (TA.1 hfr).1
 have i2 := (TA.1 hnx).1
 refine Ao (args := [_, _, _]) Tryz.func157 rfl Tryz.ntmps157 rfl hO ?_
 unfold putL
 refine DC.seq ?_
 refine AF (cl := [.v, .v, .q, .q, .v, .q, .q, .v, .q, .v, .q]) (A := [0, 0, 2, 6, 14, 0, 62, 126, 255, 511, 1023]) (order := [0, 1, 2, 3, 4, 5, 6, 7, 8, 9, 10]) [] mixed (by kernel_rfl) (fun w hw => hw.pick .nil) ?_
 refine Yl BA ?_
 refine Yl Er ?_
 refine Yo rfl (AH rfl rfl) ?_
 refine Yf DA ?_
 refine Yl BA ?_
 refine Ym ?_
 refine Yo rfl (Aj rfl rfl rfl TT AQ (by omega) (by omega) (by first | exact AC _ _ | exact Bj _ _ _ | rfl)) ?_
 refine Am rfl rfl rfl rfl (Ai rfl rfl AJ (Bi (BQ hfr))) ?_
 refine Yo rfl (Aj rfl rfl rfl TT AQ (by omega) (by omega) (by first | exact AC _ _ | exact Bj _ _ _ | rfl)) ?_
 refine Am rfl rfl rfl rfl (Ai rfl rfl AJ (Bi (M7 hnx))) ?_
 refine Yo rfl (AR rfl rfl) ?_
 refine Flow.end rfl ?_
 simp only [zq, zr]
 refine Fin.then <| DC.seq ?_
 refine AF (cl := [.v, .q, .q, .v, .q, .v, .q, .q, .v, .q, .q, .q, .q, .g, .q, .g]) (A := [0, 1, 3, 7, 0, 0, 32, 96, 224, 0, 0, 0, 1535, 5631, 16383, 32767]) (order := [0, 1, 2, 3, 4, 5, 6, 7, 8, 9, 10, 11, 12, 13, 14, 15]) [] mixed (by kernel_rfl) (fun w hw => hw.pick .nil) ?_
 refine Yl Er ?_
 refine Yo rfl (AH rfl rfl) ?_
 refine Yf G9 ?_
 refine Yl BA ?_
 refine Ym ?_
 refine Yl Er ?_
 refine Yo rfl (AH rfl rfl) ?_
 refine Yf Ny ?_
 refine Yl BA ?_
 iterate 3 refine Ym ?_
 refine Yo rfl (Aj rfl rfl rfl TT AQ (by omega) (by omega) (by first | exact AC _ _ | exact Bj _ _ _ | rfl)) ?_
 refine AS rfl rfl rfl rfl (AE (cs' := (ints (ou.set p.toNat h)).toArray) rfl rfl rfl AQ rfl (by simpa using hp1) EA) (fun w hw => hw.pick (.nil)) ?_
 refine Yo rfl (Aj rfl rfl rfl TT AQ (by omega) (by omega) (by first | exact AC _ _ | exact Bj _ _ _ | rfl)) ?_
 refine AS rfl rfl rfl rfl (AE (cs' := (ints (pl.set h.toNat p)).toArray) rfl rfl rfl AQ rfl (by simpa using hh) EA) (fun w hw => hw.pick (.nil)) ?_
 refine Flow.end rfl ?_
 simp only [zq, zr]
 refine Fin.then ?_
 refine AF (cl := [.v, .v, .q, .q, .v, .q, .q, .v, .q, .v, .q, .q, .g]) (A := [0, 0, 2, 6, 14, 0, 62, 126, 255, 511, 1023, 2047, 4095]) (order := [0, 1, 2, 3, 4, 5, 6, 7, 8, 9, 10, 11, 12]) [] mixed (by kernel_rfl) (fun w hw => hw.pick .nil) ?_
 refine Yl BA ?_
 refine Yl Er ?_
 refine Yo rfl (AH rfl rfl) ?_
 refine Yf DA ?_
 refine Yl BA ?_
 refine Ym ?_
 refine Yo rfl (Aj rfl rfl rfl TT AQ (by omega) (by omega) (by first | exact AC _ _ | exact Bj _ _ _ | rfl)) ?_
 refine Am rfl rfl rfl rfl (Ai rfl rfl AJ (Bi (BQ hfr))) ?_
 refine Yo rfl (Aj rfl rfl rfl TT AQ (by omega) (by omega) (by first | exact AC _ _ | exact Bj _ _ _ | rfl)) ?_
 refine Am rfl rfl rfl rfl (Ai rfl rfl AJ (Bi (M7 hnx))) ?_
 refine Yo rfl (CI rfl rfl rfl (by omega)) ?_
 refine Yo rfl (Aj rfl rfl rfl TT AQ (by omega) (by omega) (by first | exact AC _ _ | exact Bj _ _ _ | rfl)) ?_
 refine AS rfl rfl rfl rfl (AE (cs' := (ints (nx.set u.toNat (p + 1)) ++ sp).toArray) rfl rfl rfl AQ rfl (by simp; omega) (M6 i2)) (fun w hw => hw.pick (.nil)) ?_
 refine Flow.end rfl ?_
 simp only [zq, zr]
 refine Cb (.inr rfl) rfl ?_
 refine ⟨rfl, ?_⟩
 simp [putL, sl]
def adjL (M : AdjM) : List Chunk :=
 [blk M.gp 234 #[sl M.g0 M.fr, sl M.g1 M.st, sl M.g2 M.ou, sl M.g3 M.pl], blk M.g0 3 (ints M.fr).toArray, blk M.g1 3 (ints M.st).toArray, blk M.g2 3 (ints M.ou).toArray, blk M.g3 3 (ints M.pl).toArray]
def frT (es : List Pr) (i : Nat) : Nat → Int := fun h => if h < 2 * i then ((frs es)[h]?).getD 0 else 0
def stA (es : List Pr) (i : Nat) : Nat → Int := fun x => if x = 0 then 0 else cnt (es.take i) (x - 1)
def stB (es : List Pr) (v : Nat) : Nat → Int := fun x => if x ≤ v then pre es x else cnt es (x - 1)
def nxA (es : List Pr) (i : Nat) : Nat → Int := fun v => pre es v + loV es i v
def nxB (es : List Pr) (i : Nat) : Nat → Int := fun v => pre es v + loV es es.length v + loU es i v
structure NewI where
 i : Nat
 fo : Nat → Int
 fp : Nat → Int
theorem PH {es : List Pr} {i : Nat} {e : Pr} (he : es[i]? = some e) (h : Nat) : upd (upd (frT es i) (2 * i) e.1) (2 * i + 1) e.2 h = frT es (i + 1) h := by
 obtain ⟨f1, f2⟩ := D9 he
 unfold upd frT
 by_cases a1 : h = 2 * i + 1
 ·subst a1; rw [if_pos rfl, if_pos (by omega), f2]; rfl
 rw [if_neg a1]
 by_cases a2 : h = 2 * i
 ·subst a2; rw [if_pos rfl, if_pos (by omega), f1]; rfl
 rw [if_neg a2]
 by_cases a3 : h < 2 * i
 ·rw [if_pos a3, if_pos (by omega)]
 rw [if_neg a3, if_neg (by omega)]
theorem OS {es : List Pr} {i u v : Nat} (he : es[i]? = some ((u : Int), (v : Int))) (hne : u ≠ v) (x : Nat) :
  upd (upd (stA es i) (u + 1) (stA es i (u + 1) + 1)) (v + 1) (upd (stA es i) (u + 1) (stA es i (u + 1) + 1) (v + 1) + 1) x = stA es (i + 1) x := by
 have hc := fun y => Ib he (by dsimp only; omega) y
 dsimp only at hc
 unfold upd stA
 match x with
 | 0 => rw [if_neg (by omega), if_neg (by omega)]; rfl
 | y + 1 =>
  simp only [hc, Nat.add_sub_cancel, if_neg (Nat.succ_ne_zero _)]
  by_cases a1 : y = v
  ·subst a1
   rw [if_pos rfl, if_neg (by omega), if_neg (show ¬ (u : Int) = y by omega), if_pos rfl]; omega
  by_cases a2 : y = u
  ·subst a2
   rw [if_neg (by omega), if_pos rfl, if_pos rfl, if_neg (by omega)]; omega
  rw [if_neg (by omega), if_neg (by omega), if_neg (by omega), if_neg (by omega)]; omega
theorem OR {es : List Pr} {v : Nat} (x : Nat) : upd (stB es v) (v + 1) (stB es v (v + 1) + stB es v v) x = stB es (v + 1) x := by
 unfold upd stB
 by_cases a1 : x = v + 1
 ·subst a1
  rw [if_pos rfl, if_neg (by omega), if_pos (Nat.le_refl _), if_pos (Nat.le_refl _)]
  show cnt es (v + 1 - 1) + pre es v = pre es v + cnt es v
  simp only [Nat.add_sub_cancel]; omega
 rw [if_neg a1]
 by_cases a2 : x ≤ v
 ·rw [if_pos a2, if_pos (by omega)]
 rw [if_neg a2, if_neg (by omega)]
theorem Jm (N : Int) (es : List Pr) (A : Option Addr) (cap : Nat) (w : World) (hr : Rd w A (prs es)) (hl : es.length ≤ 9223372036854775807) :
  Calls Tryz.prog 125 #[.agg #[.int .i64 N, .slice A es.length cap]] w (Ret w [] fun v L =>
   (¬ Vld N es ∧ L = [] ∧ v = .tuple #[.pointer none, .int .i64 1]) ∨ (Vld N es ∧ ∃ M, AdjP N es M ∧ v = .tuple #[.pointer (some ⟨M.gp, 0, none⟩), .int .i64 0] ∧ L = adjL M)) := by
 refine Ao (args := [_]) (L := []) Tryz.func125 rfl Tryz.ntmps125 rfl (Own.start _ _) ?_
 refine Zs ?_
 refine Zw (Ba rfl rfl rfl) fun g1 => ?_
 iterate 2 refine Za ?_
 refine Zx <| DC.seq <| Zs ?_
 refine Zu (Ay (vs := [_, _]) rfl rfl Bn Bg rfl (Ak rfl)) ?_
 refine Seq.rel0 rfl rfl (Ar MB rfl rfl rfl (fun w' hw => Eu N es A cap w' (hr.keep0 hw) hl)) ?_
 rintro _ ⟨b, rfl, hb⟩
 refine Zo (Bd rfl rfl) ?_
 refine Zx ?_
 refine Zd (fun c1 => ?_) fun c1 => ?_
 ·refine Zs ?_
  iterate 2 refine Za ?_
  refine Zx <| DC.ret <| Aa ?_
  refine Fin.weak (E' := [(2, _), (3, _)]) ⟨rfl, rfl, trivial⟩ .nil ?_
  refine AL (.inl rfl) rfl rfl rfl ?_
  exact .inl ⟨fun hV => (by rw [hb.2 hV] at c1; cases c1), rfl, rfl⟩
 have hV : Vld N es := hb.1 (by simpa using c1)
 have hN0 := hV.lo
 have hN1 := hV.hi
 have hfew := hV.few
 obtain ⟨Nn, rfl⟩ := TJ hN0
 have hNn : Nn ≤ 1048576 := by omega
 refine DC.skip <| Fin.then <| Zs ?_
 refine Zf Be ?_
 refine Zl Bu ?_
 refine Zn TU ?_
 refine Za ?_
 refine Zx <| DC.seq ?_
 refine AF (cl := [.q, .q, .n, .q, .v, .q, .n, .q, .q, .n, .q, .q, .n, .q, .n, .n, .g]) (A := [0, 1, 3, 0, 8, 24, 56, 0, 128, 384, 0, 1024, 3072, 8191, 16383, 0, 65535]) (order := [0, 1, 3, 4, 5, 7, 8, 10, 11, 2, 6, 9, 12, 13, 14, 15, 16]) [] mixed (by kernel_rfl) (fun w hw => hw.pick .nil) ?_
 refine Ym ?_
 refine Yo rfl (Cl rfl rfl rfl (by omega)) ?_
 refine Yf BI ?_
 refine Yl AJ ?_
 refine Yo rfl (CI rfl rfl rfl (by omega)) ?_
 refine Ym ?_
 refine Yo rfl (Cl rfl rfl rfl (by omega)) ?_
 refine Ym ?_
 refine Yo rfl (Cl rfl rfl rfl (by omega)) ?_
 refine BD rfl rfl rfl rfl (Ca (k := 2 * es.length) rfl rfl rfl TT AQ DE B0 (by omega) (by omega) (by omega) (Ch _)) fun g21 => ?_
 refine BD rfl rfl rfl rfl (Ca (k := Nn + 1) rfl rfl rfl TT AQ DE B0 (by omega) (by omega) (by omega) (Ch _)) fun g25 => ?_
 refine BD rfl rfl rfl rfl (Ca (k := 2 * es.length) rfl rfl rfl TT AQ DE B0 (by omega) (by omega) (by omega) (Ch _)) fun g28 => ?_
 refine BD rfl rfl rfl rfl (Ca (k := 2 * es.length) rfl rfl rfl TT AQ DE B0 (by omega) (by omega) (by omega) (Ch _)) fun g31 => ?_
 refine Yo rfl (AA (cs := #[_, _, _, _]) rfl rfl Tr rfl rfl) ?_
 refine BD rfl rfl rfl rfl (Ba rfl rfl rfl) fun g33 => ?_
 refine BD rfl rfl rfl rfl (AD rfl R6 rfl) fun g5 => ?_
 refine Flow.sto (V := [blk g5 200 #[.pointer none], blk g33 234 _, blk g31 _ _, blk g28 _ _, blk g25 _ _, blk g21 _ _, blk g1 _ _]) rfl rfl rfl rfl rfl (AE (cs' := #[_]) rfl rfl rfl Sg rfl (TB rfl) rfl) (fun w hw => hw.pick (.nil)) ?_
 refine Flow.end rfl ?_
 simp only [zq, zr]
 refine Fin.then <| DC.seq <| Zs ?_
 refine Zf Be ?_
 refine Zl Bu ?_
 refine Zn TU ?_
 refine Zm ?_
 refine Zx <| DC.block ?_
 refine DC.loop (ι := Nat) (fun i => i ≤ es.length)
  (fun i => [(1, .pointer (some ⟨g1, 0, none⟩)), (2, .pointer none), (3, .int .i64 0), (4, .int .i64 es.length), (5, .pointer (some ⟨g5, 0, none⟩)), (35, .slice A es.length cap), (36, .int .i64 es.length), (37, .int .i64 i)])
  (fun i => [blk g5 200 #[.pointer (some ⟨g33, 0, none⟩)], blk g33 234 #[sl g21 (tab (2 * es.length) fun _ => 0), sl g25 (tab (Nn + 1) fun _ => 0), sl g28 (tab (2 * es.length) fun _ => 0), sl g31 (tab (2 * es.length) fun _ => 0)],
   blk g31 3 (ints (tab (2 * es.length) fun _ => 0)).toArray, blk g28 3 (ints (tab (2 * es.length) fun _ => 0)).toArray, blk g25 3 (ints (tab (Nn + 1) (stA es i))).toArray, blk g21 3 (ints (tab (2 * es.length) (frT es i))).toArray, blk g1 24 #[.int .i64 (Nn : Int), .slice A es.length cap]])
  (fun i => es.length - i) 0 (Nat.zero_le _) ⟨rfl, rfl, rfl, rfl, rfl, rfl, rfl, rfl, trivial⟩
  (.cons 0 rfl (.cons' 0 rfl (by simp only [Fc]; rfl) (.cons 0 rfl (.cons 0 rfl (.cons' 0 rfl (Cz fun x _ => by simp [stA, cnt, outs, outsF]) (.cons' 0 rfl (Cz fun x _ => by simp [frT]) (.cons 0 rfl .nil))))))) ?_
 intro i hi
 simp only [Fc]
 refine Zs ?_
 refine Zc ?_
 refine Zx <| DC.seq ?_
 refine Zd (fun c6 => ?_) fun c6 => ?_
 ·have hlt : i < es.length := by simpa using c6
  obtain ⟨e, he⟩ : ∃ e, es[i]? = some e := ⟨_, Tz hlt⟩
  obtain ⟨ad, rfl, hU, hVe⟩ := hr.pair he
  have ho := hV.ok i e he
  obtain ⟨u, hu⟩ := TJ ho.lo
  obtain ⟨v, hv⟩ := TJ (show 0 ≤ e.2 by have := ho.lo; have := ho.lt; omega)
  obtain rfl : e = ((u : Int), (v : Int)) := Prod.ext hu hv
  clear hu hv
  have huv : u < v := by have := ho.lt; simp at this; exact this
  have hvN : v < Nn := by have := ho.hi; simp at this; exact this
  replace hU : w.cell? (ad.add (i * 2)) = some (.int .i64 (u : Int)) := hU
  replace hVe : w.cell? (ad.add (i * 2 + 1)) = some (.int .i64 (v : Int)) := hVe
  refine DC.skip <| Fin.then <| DC.seq <| DC.block <| Zs ?_
  refine Zm ?_
  refine Zo (AM rfl rfl rfl TU AY (by omega) (by omega) (by first | exact AC _ _ | exact Bj _ _ _ | rfl)) ?_
  refine Zu (Ay (vs := [_, _]) rfl rfl B3 AY rfl (Cv hU hVe (by simp))) ?_
  refine Zw (AD rfl CE rfl) fun g7 => ?_
  refine Za ?_
  refine Zy (At (cs' := #[_, _]) rfl rfl rfl AY rfl (TB rfl) rfl) ?_
  refine Zx <| DC.seq ?_
  refine AF (cl := [.v, .q, .q, .v, .q, .q, .v, .q, .q, .v, .q, .q, .q, .q, .v, .q, .q, .q, .g, .q, .g]) (A := [0, 1, 3, 7, 0, 16, 0, 64, 192, 448, 0, 1024, 3072, 0, 8192, 0, 32768, 25599, 156671, 524287, 1048575]) (order := [0, 1, 2, 3, 4, 5, 6, 7, 8, 9, 10, 11, 12, 13, 14, 15, 16, 17, 18, 19, 20]) ([blk g7 43 #[.int .i64 (u : Int), .int .i64 (v : Int)]]) mixed (by kernel_rfl) (fun w hw => hw.pick (.cons 0 rfl .nil)) ?_
  refine Yl Er ?_
  refine Yo rfl (AH rfl rfl) ?_
  refine Yf DA ?_
  refine Yl BA ?_
  refine Ym ?_
  refine Yo rfl (Cl rfl rfl rfl (by omega)) ?_
  refine Yl Er ?_
  refine Yo rfl (AH rfl rfl) ?_
  refine Yf DA ?_
  refine Yl BA ?_
  refine Ym ?_
  refine Yo rfl (Cl rfl rfl rfl (by omega)) ?_
  refine Yo rfl (CI rfl rfl rfl (by omega)) ?_
  refine Yf Bb ?_
  refine Yl AJ ?_
  refine Yf Bk ?_
  refine Flow.old rfl rfl rfl (Ai rfl rfl AJ (BJ rfl)) ?_
  refine Yo rfl (Aj (ad' := ⟨g21, 2 * i, none⟩) rfl rfl rfl TT AQ (by omega) (by omega) (by rw [AC]; rfl)) ?_
  refine AS rfl rfl rfl rfl (AE (cs' := (ints (tab (2 * es.length) (upd (frT es i) (2 * i) u))).toArray) rfl rfl rfl AQ rfl (by simp; omega) BR) (fun w hw => hw.pick (.cons 0 rfl .nil)) ?_
  refine Yo rfl (Aj (ad' := ⟨g21, 2 * i + 1, none⟩) rfl rfl rfl TT AQ (by omega) (by omega) (by rw [AC]; rfl)) ?_
  refine AS rfl rfl rfl rfl (AE (cs' := (ints (tab (2 * es.length) (frT es (i + 1)))).toArray) rfl rfl rfl AQ rfl (by simp; omega) (by rw [BR, CP fun x _ => PH he x])) (fun w hw => hw.pick (.cons 0 rfl .nil)) ?_
  refine Flow.end rfl ?_
  simp only [zq, zr]
  refine Fin.then <| DC.seq ?_
  refine AF (cl := [.v, .q, .q, .v, .q, .v, .q, .q, .v, .q, .q, .g]) (A := [0, 1, 3, 7, 0, 16, 48, 127, 255, 511, 1023, 2047]) (order := [0, 1, 2, 3, 4, 5, 6, 7, 8, 9, 10, 11]) [] mixed (by kernel_rfl) (fun w hw => hw.pick .nil) ?_
  refine Yl Er ?_
  refine Yo rfl (AH rfl rfl) ?_
  refine Yf CY ?_
  refine Yl BA ?_
  refine Yf Bb ?_
  refine Yl AJ ?_
  refine Yo rfl (CI rfl rfl rfl (by omega)) ?_
  refine Yo rfl (Aj (ad' := ⟨g25, u + 1, none⟩) rfl rfl rfl TT AQ (by omega) (by omega) (by rw [AC]; rfl)) ?_
  refine Am rfl rfl rfl rfl (Ai rfl rfl AJ (Bi (Bt (by omega)))) ?_
  have hcb : 0 ≤ stA es i (u + 1) ∧ stA es i (u + 1) ≤ 8388608 := by
   simp only [stA, Nat.add_sub_cancel, if_neg (Nat.succ_ne_zero u)]
   have h1 := Ee (es.take i) u
   have h2 := G0 hV (u : Int) i (by omega)
   have h3 : loV es i u ≤ i := by unfold loV; have := List.countP_le_length (p := fun e : Pr => decide (e.2 = (u : Int))) (l := es.take i); simp at this; omega
   have h4 : loU es i u ≤ i := by unfold loU; have := List.countP_le_length (p := fun e : Pr => decide (e.1 = (u : Int))) (l := es.take i); simp at this; omega
   unfold cnt at *; omega
  refine Yo rfl (CI rfl rfl rfl (by omega)) ?_
  refine Yo rfl (Aj (ad' := ⟨g25, u + 1, none⟩) rfl rfl rfl TT AQ (by omega) (by omega) (by rw [AC]; rfl)) ?_
  refine AS rfl rfl rfl rfl (AE (cs' := (ints (tab (Nn + 1) (upd (stA es i) (u + 1) (stA es i (u + 1) + 1)))).toArray) rfl rfl rfl AQ rfl (by simp; omega) BR) (fun w hw => hw.pick (.nil)) ?_
  refine Flow.end rfl ?_
  simp only [zq, zr]
  refine Fin.then ?_
  refine AF (cl := [.v, .q, .q, .v, .q, .v, .q, .q, .v, .q, .q, .g]) (A := [0, 1, 3, 7, 0, 16, 48, 127, 255, 511, 1023, 2047]) (order := [0, 1, 2, 3, 4, 5, 6, 7, 8, 9, 10, 11]) [] mixed (by kernel_rfl) (fun w hw => hw.pick .nil) ?_
  refine Yl Er ?_
  refine Yo rfl (AH rfl rfl) ?_
  refine Yf CY ?_
  refine Yl BA ?_
  refine Yf Bk ?_
  refine Yl AJ ?_
  refine Yo rfl (CI rfl rfl rfl (by omega)) ?_
  refine Yo rfl (Aj (ad' := ⟨g25, v + 1, none⟩) rfl rfl rfl TT AQ (by omega) (by omega) (by rw [AC]; rfl)) ?_
  refine Am rfl rfl rfl rfl (Ai rfl rfl AJ (Bi (Bt (by omega)))) ?_
  have hcv : 0 ≤ upd (stA es i) (u + 1) (stA es i (u + 1) + 1) (v + 1) ∧ upd (stA es i) (u + 1) (stA es i (u + 1) + 1) (v + 1) ≤ 8388608 := by
   unfold upd
   rw [if_neg (by omega)]
   simp only [stA, Nat.add_sub_cancel, if_neg (Nat.succ_ne_zero v)]
   have h1 := Ee (es.take i) v
   have h2 := G0 hV (v : Int) i (by omega)
   have h3 : loV es i v ≤ i := by unfold loV; have := List.countP_le_length (p := fun e : Pr => decide (e.2 = (v : Int))) (l := es.take i); simp at this; omega
   have h4 : loU es i v ≤ i := by unfold loU; have := List.countP_le_length (p := fun e : Pr => decide (e.1 = (v : Int))) (l := es.take i); simp at this; omega
   unfold cnt at *; omega
  refine Yo rfl (CI rfl rfl rfl (by omega)) ?_
  refine Yo rfl (Aj (ad' := ⟨g25, v + 1, none⟩) rfl rfl rfl TT AQ (by omega) (by omega) (by rw [AC]; rfl)) ?_
  refine AS rfl rfl rfl rfl (AE (cs' := (ints (tab (Nn + 1) (stA es (i + 1)))).toArray) rfl rfl rfl AQ rfl (by simp; omega) (by rw [BR, CP fun x _ => OS he (by omega) x])) (fun w hw => hw.pick (.nil)) ?_
  refine Flow.end rfl ?_
  simp only [zq, zr]
  refine Fin.inBlock <| Fin.then <| DC.region ?_
  refine Zp ?_
  refine Zm ?_
  refine Seq.nil ?_
  refine Ag (i + 1) (by omega) (by omega) ⟨rfl, rfl, rfl, rfl, rfl, rfl, rfl, rfl, trivial⟩ (.cons 1 rfl (.cons' 1 rfl (by simp only [Fc]) (.cons 1 rfl (.cons 1 rfl (.cons 1 rfl (.cons 1 rfl (.cons 1 rfl .nil)))))))
 have hie : i = es.length := by simp at c6; omega
 subst hie
 refine DC.exit <| Ad <| Ad <| Ah <| Fin.then <| DC.seq <| Zs ?_
 refine Zf BI ?_
 refine Zl AJ ?_
 refine Zm ?_
 refine Zx <| DC.block ?_
 refine DC.loop (ι := Nat) (fun v => v ≤ Nn)
  (fun v => [(2, .pointer none), (3, .int .i64 0), (4, .int .i64 es.length), (5, .pointer (some ⟨g5, 0, none⟩)), (85, .int .i64 (Nn : Int)), (86, .int .i64 v)])
  (fun v => [blk g5 200 #[.pointer (some ⟨g33, 0, none⟩)], blk g33 234 #[sl g21 (tab (2 * es.length) fun _ => 0), sl g25 (tab (Nn + 1) fun _ => 0), sl g28 (tab (2 * es.length) fun _ => 0), sl g31 (tab (2 * es.length) fun _ => 0)],
   blk g31 3 (ints (tab (2 * es.length) fun _ => 0)).toArray, blk g28 3 (ints (tab (2 * es.length) fun _ => 0)).toArray, blk g25 3 (ints (tab (Nn + 1) (stB es v))).toArray, blk g21 3 (ints (tab (2 * es.length) (frT es es.length))).toArray])
  (fun v => Nn - v) 0 (Nat.zero_le _) ⟨rfl, rfl, rfl, rfl, rfl, rfl, trivial⟩
  (.cons 0 rfl (.cons' 0 rfl (by simp only [Fc]) (.cons 0 rfl (.cons 0 rfl (.cons' 0 rfl (Cz fun x _ => by
   unfold stA stB
   rw [List.take_length]
   by_cases h0 : x = 0
   ·subst h0; rfl
   rw [if_neg h0, if_neg (by omega)]) (.cons 0 rfl .nil)))))) ?_
 intro v hv
 simp only [Fc]
 refine Zs ?_
 refine Zc ?_
 refine Zx <| DC.seq ?_
 refine Zd (fun c13 => ?_) fun c13 => ?_
 ·have hlt : v < Nn := by simpa using c13
  refine DC.skip <| Fin.then <| DC.seq <| DC.block <| Zs ?_
  refine Zm ?_
  refine Za ?_
  refine Zx ?_
  refine AF (cl := [.v, .q, .q, .v, .q, .q, .q, .v, .v, .q, .q, .v, .q, .q, .v, .q, .q, .g]) (A := [0, 1, 3, 7, 0, 16, 63, 127, 0, 256, 768, 1792, 0, 7936, 16128, 32767, 65535, 131071]) (order := [0, 1, 2, 3, 4, 5, 6, 7, 8, 9, 10, 11, 12, 13, 14, 15, 16, 17]) [] mixed (by kernel_rfl) (fun w hw => hw.pick .nil) ?_
  refine Yl Er ?_
  refine Yo rfl (AH rfl rfl) ?_
  refine Yf CY ?_
  refine Yl BA ?_
  refine Ym ?_
  refine Yo rfl (CI rfl rfl rfl (by omega)) ?_
  refine Yo rfl (Aj (ad' := ⟨g25, v + 1, none⟩) rfl rfl rfl TT AQ (by omega) (by omega) (by rw [AC]; rfl)) ?_
  refine Am rfl rfl rfl rfl (Ai rfl rfl AJ (Bi (Bt (by omega)))) ?_
  refine Yl Er ?_
  refine Yo rfl (AH rfl rfl) ?_
  refine Yf CY ?_
  refine Yl BA ?_
  refine Ym ?_
  refine Yo rfl (Aj rfl rfl rfl TT AQ (by omega) (by omega) (by first | exact AC _ _ | exact Bj _ _ _ | rfl)) ?_
  refine Am rfl rfl rfl rfl (Ai rfl rfl AJ (Bi (Bt (i := v) (by omega)))) ?_
  have hcb : 0 ≤ stB es v (v + 1) ∧ stB es v (v + 1) ≤ 8388608 ∧ 0 ≤ stB es v v ∧ stB es v v ≤ 8388608 := by
   unfold stB
   rw [if_neg (by omega), if_pos (Nat.le_refl _)]
   have h1 := Mf hV (v := v + 1) (by omega)
   have h2 : pre es (v + 1) = pre es v + cnt es v := rfl
   have h3 := CA es v
   have h4 := Ee es v
   simp only [Nat.add_sub_cancel]
   omega
  refine Yo rfl (CI rfl rfl rfl (by omega)) ?_
  refine Yo rfl (Aj (ad' := ⟨g25, v + 1, none⟩) rfl rfl rfl TT AQ (by omega) (by omega) (by rw [AC]; rfl)) ?_
  refine AS rfl rfl rfl rfl (AE (cs' := (ints (tab (Nn + 1) (stB es (v + 1)))).toArray) rfl rfl rfl AQ rfl (by simp; omega) (by rw [BR, CP fun x _ => OR x])) (fun w hw => hw.pick (.nil)) ?_
  refine Flow.end rfl ?_
  simp only [zq, zr]
  refine Fin.inBlock <| Fin.then <| DC.region ?_
  refine Zp ?_
  refine Zm ?_
  refine Seq.nil ?_
  refine Ag (v + 1) (by omega) (by omega) ⟨rfl, rfl, rfl, rfl, rfl, rfl, trivial⟩ (.cons 0 rfl (.cons' 0 rfl (by simp only [Fc]) (.cons 0 rfl (.cons 0 rfl (.cons 0 rfl (.cons 0 rfl .nil))))))
 have hve : v = Nn := by simp at c13; omega
 subst hve
 refine DC.exit <| Ad <| Ad <| Ah <| Fin.then <| Zs ?_
 refine Zw (AP (cs := #[]) rfl rfl TT AQ B0 rfl (by decide) (by decide) rfl rfl) fun g107 => ?_
 refine Zl Er ?_
 refine Zo (AH rfl rfl) ?_
 refine Zf CY ?_
 refine Zl BA ?_
 refine Seq.gen rfl rfl (AK rfl rfl rfl TT AQ DE B0 rfl (by decide) (by decide) (fun w hw => BZ (vs := []) rfl (by decide) (Nat.le_refl _) (by decide) rfl rfl hw) (.inl ⟨_, _, rfl, Ok⟩) (by simp) (Bm _ []) (by simp; omega)) ?_
 rintro v112 _ rfl
 refine Seq.open (fun _ h => absurd (congrArg List.length h) (by simp)) ?_
 rintro gx len capx sp rfl hlen hlc hcm hcs
 obtain rfl : len = v + 1 := by simp at hlen; omega
 simp only [List.nil_append]
 refine Zw (AD rfl Da rfl) fun g9 => ?_
 refine Zy (AE (cs' := #[_]) rfl rfl rfl BE rfl (TB rfl) rfl) ?_
 refine Zx <| Zs ?_
 refine Zo (Gh rfl rfl rfl) ?_
 refine Za ?_
 refine Zx <| DC.seq <| Zs ?_
 iterate 2 refine Zm ?_
 refine Zx <| DC.block ?_
 refine DC.loop (ι := NewI) (fun s => s.i ≤ es.length ∧ Done es (fun h => h % 2 = 1 ∧ h / 2 < s.i) s.fo s.fp)
  (fun s => [(2, .pointer none), (3, .int .i64 0), (4, .int .i64 es.length), (5, .pointer (some ⟨g5, 0, none⟩)), (10, .func (.func 157) #[] #[.pointer (some ⟨g9, 0, none⟩), .pointer (some ⟨g5, 0, none⟩)]), (114, .int .i64 es.length), (115, .int .i64 s.i)])
  (fun s => putL g9 g5 g33 g21 g25 gx g28 g31 capx (tab (2 * es.length) (frT es es.length)) (tab (v + 1) (stB es v)) (tab (v + 1) (nxA es s.i)) (tab (2 * es.length) s.fo) (tab (2 * es.length) s.fp) sp ++ [blk g25 3 (ints (tab (v + 1) (stB es v))).toArray])
  (fun s => es.length - s.i) ⟨0, fun _ => 0, fun _ => 0⟩ ⟨Nat.zero_le _, fun v k h hk hD => by dsimp only at hD; have := ((Bl hV).1 (TD hk)).1; omega⟩ ⟨rfl, rfl, rfl, rfl, rfl, rfl, rfl, trivial⟩
  (.cons' 0 rfl (by simp) (.cons' 1 rfl rfl (.cons' 1 rfl (by simp only [Fc]) (.cons' 4 rfl rfl (.cons' 0 rfl (Ej fun x hx => by
   unfold stB nxA loV
   rw [if_pos (by omega)]; simp) (.cons' 1 rfl rfl (.cons' 0 rfl rfl (.cons' 0 rfl rfl .nil)))))))) ?_
 rintro ⟨i, fo, fp⟩ ⟨hi, hD⟩
 dsimp only at hi hD ⊢
 refine Zs ?_
 refine Zc ?_
 refine Zx <| DC.seq ?_
 refine Zd (fun c20 => ?_) fun c20 => ?_
 ·have hlt : i < es.length := by simpa using c20
  obtain ⟨e, he⟩ : ∃ e, es[i]? = some e := ⟨_, Tz hlt⟩
  have ho := hV.ok i e he
  obtain ⟨x, hx⟩ := TJ (show 0 ≤ e.2 by have := ho.lo; have := ho.lt; omega)
  have hxN : x < v := by have := ho.hi; omega
  have hpos := N6 he (by have := ho.lt; omega)
  rw [hx] at hpos
  have hk := (TA.1 hpos).1
  have hkl := G0 hV (x : Int) i (by omega)
  have hz := Pm hV he
  rw [hx] at hz
  have hpl := HD hV (v := x) (by omega) hk
  have hpn := CA es x
  have hD' := Done.put hV hD hpos
  obtain ⟨p, hp⟩ : ∃ p, p = pre es x + ((outs (es.take i) (x : Int)).length : Int) := ⟨_, rfl⟩
  rw [← hp] at hD' hpl
  have hp0 : 0 ≤ p := by omega
  refine DC.skip <| Fin.then <| DC.seq <| DC.block <| Zs ?_
  refine Zm ?_
  refine Za ?_
  refine Zx <| DC.region ?_
  iterate 2 refine Zm ?_
  refine Zo (Cl rfl rfl rfl (by omega)) ?_
  refine Zp ?_
  refine Seq.gen rfl rfl (Bh Ri rfl rfl rfl (.refl _) (fun _ h => h) (fun w hw => IU (h := 2 * (i : Int) + 1) (u := (x : Int)) (p := p) (hw.sub (List.sublist_append_left _ _)).self (by omega) (by
   have h1 : (2 * (i : Int) + 1).toNat = 2 * i + 1 := by omega
   rw [h1, Bw _ (by omega)]; unfold frT; rw [if_pos (by omega), (D9 he).2, hx]; rfl) (by omega) (by
   simp only [TC]
   rw [Bw _ (by omega)]; unfold nxA; rw [hp]; congr 1; omega) hp0 (by simp; omega) (by simp; omega) (by omega))) ?_
  rintro _ _ ⟨_, ⟨rfl, rfl⟩, rfl⟩
  refine Seq.nil <| Fin.inBlock <| Fin.then <| DC.region ?_
  refine Zp ?_
  refine Zm ?_
  refine Seq.nil ?_
  have e1 : (2 * (i : Int) + 1).toNat = 2 * i + 1 := by omega
  refine Ag (NewI.mk (i + 1) (upd fo p.toNat (2 * (i : Int) + 1)) (upd fp (2 * (i : Int) + 1).toNat p)) (by simp; omega) ⟨by simp; omega, hD'.imp fun y z hz hd => ?_⟩ ⟨rfl, rfl, rfl, rfl, rfl, rfl, rfl, trivial⟩
   (.cons' 0 rfl (by simp) (.cons' 0 rfl rfl (.cons' 0 rfl (by simp [sl]) (.cons' 0 rfl rfl (.cons' 0 rfl (by
    simp only [TC, Db]
    refine Ej fun y hy => ?_
    unfold upd nxA
    rw [HN he, hx]
    by_cases hyx : y = x
    ·subst hyx; rw [if_pos rfl, if_pos rfl]; omega
    rw [if_neg hyx, if_neg (by omega)]; omega) (.cons' 0 rfl (by rw [Db]) (.cons' 0 rfl (by rw [Db]) (.cons' 0 rfl rfl .nil))))))))
  by_cases h1 : z / 2 < i
  ·exact .inl ⟨hd.1, h1⟩
  exact .inr (by have := hd.1; have := hd.2; simp at this; omega)
 have hie : i = es.length := by simp at c20; omega
 subst hie
 refine DC.exit <| Ad <| Ad <| Ah <| Fin.then <| DC.seq <| Zs ?_
 iterate 2 refine Zm ?_
 refine Zx <| DC.block ?_
 refine DC.loop (ι := NewI) (fun s => s.i ≤ es.length ∧ Done es (fun h => h % 2 = 1 ∨ h / 2 < s.i) s.fo s.fp)
  (fun s => [(2, .pointer none), (3, .int .i64 0), (5, .pointer (some ⟨g5, 0, none⟩)), (10, .func (.func 157) #[] #[.pointer (some ⟨g9, 0, none⟩), .pointer (some ⟨g5, 0, none⟩)]), (124, .int .i64 es.length), (125, .int .i64 s.i)])
  (fun s => putL g9 g5 g33 g21 g25 gx g28 g31 capx (tab (2 * es.length) (frT es es.length)) (tab (v + 1) (stB es v)) (tab (v + 1) (nxB es s.i)) (tab (2 * es.length) s.fo) (tab (2 * es.length) s.fp) sp ++ [blk g25 3 (ints (tab (v + 1) (stB es v))).toArray])
  (fun s => es.length - s.i) ⟨0, fo, fp⟩ ⟨Nat.zero_le _, hD.imp fun y z hz hd => by dsimp only at hd; have := ((Bl hV).1 hz).2.1; have := ((Bl hV).1 hz).1; omega⟩ ⟨rfl, rfl, rfl, rfl, rfl, rfl, trivial⟩
  (.cons' 0 rfl (by simp) (.cons' 0 rfl rfl (.cons' 0 rfl rfl (.cons' 0 rfl rfl (.cons' 0 rfl (Ej fun x hx => by
   unfold nxA nxB loU; simp) (.cons' 0 rfl rfl (.cons' 0 rfl rfl (.cons' 0 rfl rfl .nil)))))))) ?_
 rintro ⟨i, fo, fp⟩ ⟨hi, hD⟩
 dsimp only at hi hD ⊢
 refine Zs ?_
 refine Zc ?_
 refine Zx <| DC.seq ?_
 refine Zd (fun c25 => ?_) fun c25 => ?_
 ·have hlt : i < es.length := by simpa using c25
  obtain ⟨e, he⟩ : ∃ e, es[i]? = some e := ⟨_, Tz hlt⟩
  have ho := hV.ok i e he
  obtain ⟨x, hx⟩ := TJ ho.lo
  have hxN : x < v := by have := ho.hi; have := ho.lt; omega
  have hpos := N7 he
  rw [hx] at hpos
  have hk := (TA.1 hpos).1
  have hkl := G0 hV (x : Int) i (by omega)
  have hz := QM hV he
  rw [hx] at hz
  have hpl := HD hV (v := x) (by omega) hk
  have hpn := CA es x
  have hD' := Done.put hV hD hpos
  obtain ⟨p, hp⟩ : ∃ p, p = pre es x + ((outs (es.take i) (x : Int)).length : Int) := ⟨_, rfl⟩
  rw [← hp] at hD' hpl
  have hp0 : 0 ≤ p := by omega
  refine DC.skip <| Fin.then <| DC.seq <| DC.block <| Zs ?_
  refine Zm ?_
  refine Za ?_
  refine Zx <| DC.region ?_
  iterate 2 refine Zm ?_
  refine Zo (Cl rfl rfl rfl (by omega)) ?_
  refine Seq.gen rfl rfl (Bh Ri rfl rfl rfl (.refl _) (fun _ h => h) (fun w hw => IU (h := 2 * (i : Int)) (u := (x : Int)) (p := p) (hw.sub (List.sublist_append_left _ _)).self (by omega) (by
   have h1 : (2 * (i : Int)).toNat = 2 * i := by omega
   rw [h1, Bw _ (by omega)]; unfold frT; rw [if_pos (by omega), (D9 he).1, hx]; rfl) (by omega) (by
   simp only [TC]
   rw [Bw _ (by omega)]; unfold nxB; rw [hp]; congr 1; omega) hp0 (by simp; omega) (by simp; omega) (by omega))) ?_
  rintro _ _ ⟨_, ⟨rfl, rfl⟩, rfl⟩
  refine Seq.nil <| Fin.inBlock <| Fin.then <| DC.region ?_
  refine Zp ?_
  refine Zm ?_
  refine Seq.nil ?_
  refine Ag (NewI.mk (i + 1) (upd fo p.toNat (2 * (i : Int))) (upd fp (2 * (i : Int)).toNat p)) (by simp; omega) ⟨by simp; omega, hD'.imp fun y z hz hd => ?_⟩ ⟨rfl, rfl, rfl, rfl, rfl, rfl, trivial⟩
   (.cons' 0 rfl (by simp) (.cons' 0 rfl rfl (.cons' 0 rfl (by simp [sl]) (.cons' 0 rfl rfl (.cons' 0 rfl (by
    simp only [TC, Db]
    refine Ej fun y hy => ?_
    unfold upd nxB
    rw [K0 he, hx]
    by_cases hyx : y = x
    ·subst hyx; rw [if_pos rfl, if_pos rfl]; omega
    rw [if_neg hyx, if_neg (by omega)]; omega) (.cons' 0 rfl (by rw [Db]) (.cons' 0 rfl (by rw [Db]) (.cons' 0 rfl rfl .nil))))))))
  rcases hd with hd | hd
  ·exact .inl (.inl hd)
  by_cases h1 : z / 2 < i
  ·exact .inl (.inr h1)
  by_cases h2 : z % 2 = 1
  ·exact .inl (.inl h2)
  exact .inr (by simp at hd; omega)
 have hie : i = es.length := by simp at c25; omega
 subst hie
 simp only [putL, List.cons_append, List.nil_append]
 refine DC.exit <| Ad <| Ad <| Ah <| Fin.then <| Zs ?_
 refine Zl Er ?_
 iterate 2 refine Za ?_
 refine Zx <| DC.ret ?_
 refine Fin.weak (E' := [(2, _), (3, _)]) (L' := adjL ⟨g33, g21, g25, g28, g31, tab (2 * es.length) (frT es es.length), tab (v + 1) (stB es v), tab (2 * es.length) fo, tab (2 * es.length) fp⟩) ⟨rfl, rfl, trivial⟩ (.cons 2 rfl (.cons 2 rfl (.cons 5 rfl (.cons 3 rfl (.cons 3 rfl .nil))))) ?_
 refine AL (.inl rfl) rfl rfl rfl ?_
 refine .inr ⟨hV, _, ⟨hV, ?_, by simp, ?_, ?_, by simp; omega, by simp; omega, ?_, ?_⟩, rfl, rfl⟩
 ·apply List.ext_getElem?
  intro j
  by_cases hj : j < 2 * es.length
  ·rw [Bw _ hj]
   have : j < (frs es).length := by rw [BH]; omega
   unfold frT
   rw [if_pos hj, Tz this]; rfl
  rw [TQ (by simp; omega), TQ (by rw [BH]; omega)]
 ·rw [Bw _ (by omega)]; rfl
 ·intro x y hxN hy
  obtain ⟨hx1, rfl⟩ := Hi hy
  rw [Bw _ (by omega)]
  unfold stB
  rw [if_pos (by omega), if_pos (by omega)]; rfl
 ·intro x y hxN hy k h hk
  obtain ⟨hx1, rfl⟩ := Hi hy
  have hm := (Bl hV).1 (TD hk)
  have hkl := (TA.1 hk).1
  have hpl := HD hV hxN hkl
  have hpn := CA es x
  obtain ⟨d1, d2⟩ := hD x k h hk (.inr (by omega))
  have hs : stB es v x = pre es x := by unfold stB; rw [if_pos (by omega)]
  rw [hs]
  have e1 : (pre es x).toNat + k = (pre es x + k).toNat := by omega
  refine ⟨?_, ?_⟩
  ·show (tab (2 * es.length) fo)[_]? = _
   rw [e1, Bw _ (by omega), d1]
  show (tab (2 * es.length) fp)[_]? = _
  rw [Bw _ (by omega), d2]
 intro x y hy
 obtain ⟨hx1, rfl⟩ := Hi hy
 have hs : stB es v x = pre es x := by unfold stB; rw [if_pos (by omega)]
 rw [hs]
 have := CA es x
 have := Mf hV (v := x) (by omega)
 omega
def degA (es : List Pr) (i : Nat) : Nat → Int := fun x => cnt (es.take i) x
theorem Jg {es : List Pr} {i u v : Nat} (he : es[i]? = some ((u : Int), (v : Int))) (hne : u ≠ v) (x : Nat) :
  upd (upd (degA es i) u (degA es i u + 1)) v (upd (degA es i) u (degA es i u + 1) v + 1) x = degA es (i + 1) x := by
 have hc := Ib he (by dsimp only; omega) x
 dsimp only at hc
 unfold degA
 rw [hc]
 unfold upd
 dsimp only
 by_cases a1 : x = v
 ·subst a1; rw [if_pos rfl, if_neg (Ne.symm hne), if_neg (by omega), if_pos rfl]; omega
 rw [if_neg a1]
 by_cases a2 : x = u
 ·subst a2; rw [if_pos rfl, if_pos rfl, if_neg (by omega)]; omega
 rw [if_neg a2, if_neg (by omega), if_neg (by omega)]; omega
theorem EY : ∀ (es : List Pr) (k : Nat) (v : Int), (outsF k es v).length ≤ es.length
 | [], k, v => by simp [outsF]
 | e :: r, k, v => by
  unfold outsF
  have := EY r (k + 1) v
  rw [List.length_append, List.length_cons]
  split
  ·simp; omega
  split <;> simp <;> omega
structure DegI where
 i : Nat
theorem E9 {N : Int} {es : List Pr} {va : Value} {w : World} (hg : PrV w va es) :
  Calls Tryz.prog 120 #[.agg #[.int .i64 N, va]] w (Ret w [] fun r L =>
   (Vld N es ∧ ∃ g, r = .tuple #[.slice (some ⟨g, 0, none⟩) N.toNat N.toNat, .int .i64 0] ∧ L = [blk g 3 (ints (tab N.toNat (fun v => cnt es v))).toArray]) ∨ (¬ Vld N es ∧ r = .tuple #[.slice none 0 0, .int .i64 1] ∧ L = [])) := by
 obtain ⟨A, cap, rfl, hr, hlc, hcm, hle⟩ := hg
 refine Ao (args := [_]) (L := []) Tryz.func120 rfl Tryz.ntmps120 rfl (Own.start _ _) ?_
 refine Zs ?_
 refine Zw (Ba rfl rfl rfl) fun g1 => ?_
 iterate 2 refine Za ?_
 refine Zx <| DC.seq <| Zs ?_
 refine Zu (Ay (vs := [_, _]) rfl rfl Bn Bg rfl (Ak rfl)) ?_
 refine Seq.rel0 rfl rfl (Ar MB rfl rfl rfl (fun w hw => Eu N es A cap w (hr.keep0 hw) (by omega))) ?_
 rintro _ ⟨b, rfl, hb⟩
 refine Zo (Bd rfl rfl) ?_
 refine Zx ?_
 refine Zd (fun c1 => ?_) fun c1 => ?_
 ·refine Zs ?_
  iterate 2 refine Za ?_
  refine Zx <| DC.ret <| Aa ?_
  refine Fin.weak (E' := [(2, _), (3, _)]) ⟨rfl, rfl, trivial⟩ .nil ?_
  refine AL (.inl rfl) rfl rfl rfl ?_
  exact .inr ⟨by rw [← hb]; simpa using c1, rfl, rfl⟩
 refine DC.skip <| Fin.then <| DC.seq ?_
 have hV : Vld N es := hb.1 (by simpa using c1)
 have hN0 := hV.lo
 have hN1 := hV.hi
 obtain ⟨n, rfl⟩ := TJ hN0
 simp only [TC]
 refine DC.region ?_
 refine Zf BI ?_
 refine Zl AJ ?_
 refine Zw (Ca (k := n) rfl rfl rfl TT AQ DE B0 rfl (by omega) (by omega) (Ch n)) fun g12 => ?_
 refine Za ?_
 refine Zx <| DC.seq <| Zs ?_
 refine Zf Be ?_
 refine Zl Bu ?_
 refine Zn TU ?_
 refine Zm ?_
 refine Zx <| DC.block ?_
 refine DC.loop (ι := DegI) (fun j => j.i ≤ es.length)
  (fun j => [(4, .slice (some ⟨g12, 0, none⟩) n n), (14, .slice A es.length cap), (15, .int .i64 es.length), (16, .int .i64 j.i)])
  (fun j => [blk g12 3 (ints (tab n (degA es j.i))).toArray]) (fun j => es.length - j.i) ⟨0⟩ (Nat.zero_le _) ⟨rfl, rfl, rfl, rfl, trivial⟩ (.cons' 0 rfl (Cz fun _ _ => by simp [degA, cnt, outs, outsF]) .nil) ?_
 rintro ⟨i⟩ hi
 dsimp only at hi ⊢
 refine Zs ?_
 refine Zc ?_
 refine Zx <| DC.seq ?_
 refine Zd (fun c5 => ?_) fun c5 => ?_
 ·have hlt : i < es.length := by simpa using c5
  obtain ⟨e, he⟩ : ∃ e, es[i]? = some e := ⟨_, Tz hlt⟩
  obtain ⟨ad, rfl, hU, hVe⟩ := hr.pair he
  have ho := hV.ok i e he
  obtain ⟨u, hu⟩ := TJ ho.lo
  obtain ⟨v, hv⟩ := TJ (show 0 ≤ e.2 by have := ho.lo; have := ho.lt; omega)
  obtain rfl : e = ((u : Int), (v : Int)) := Prod.ext hu hv
  clear hu hv
  have huv : u < v := by have := ho.lt; simp at this; exact this
  have hvN : v < n := by have := ho.hi; simp at this; exact this
  replace hU : w.cell? (ad.add (i * 2)) = some (.int .i64 (u : Int)) := hU
  replace hVe : w.cell? (ad.add (i * 2 + 1)) = some (.int .i64 (v : Int)) := hVe
  have b1 : ∀ (x : Nat), 0 ≤ degA es i x ∧ degA es i x ≤ 4194304 := fun x => by
   have := EY (es.take i) 0 x
   have := hV.few
   simp only [List.length_take] at *
   unfold degA cnt outs; omega
  have b2 := b1 u
  have b3 := b1 v
  refine DC.skip <| Fin.then <| DC.seq <| DC.block <| Zs ?_
  refine Zo (AM rfl rfl rfl TU AY (by omega) (by omega) (by first | exact AC _ _ | exact Bj _ _ _ | rfl)) ?_
  refine Zu (Ay (vs := [_, _]) rfl rfl B3 AY rfl (Cv hU hVe (by simp))) ?_
  refine Zw (AD rfl CE rfl) fun g6 => ?_
  refine Zy (At (cs' := #[_, _]) rfl rfl rfl AY rfl (TB rfl) rfl) ?_
  refine Zx <| Zs ?_
  refine Zm ?_
  refine Zf Bb ?_
  refine Zl AJ ?_
  refine Zi TT AQ ?_
  refine Zu (Ai rfl rfl AJ (Bi (Bt (by omega)))) ?_
  refine Zo (CI rfl rfl rfl (by simp only [TC]; omega)) ?_
  refine Zi TT AQ ?_
  refine Zy (AE rfl rfl rfl AQ rfl (by simp; omega) BR) ?_
  refine Zx ?_
  have b4 : upd (degA es i) u (degA es i u + 1) v = degA es i v := by unfold upd; rw [if_neg (by omega)]
  refine DC.region ?_
  refine Zm ?_
  refine Zf Bk ?_
  refine Zl AJ ?_
  refine Zi TT AQ ?_
  refine Zu (Ai rfl rfl AJ (Bi (Bt hvN))) ?_
  refine Zo (CI rfl rfl rfl (by simp only [TC]; rw [b4]; omega)) ?_
  refine Zi TT AQ ?_
  refine Zy (AE rfl rfl rfl AQ rfl (by simp; omega) BR) ?_
  refine Seq.nil <| Fin.inBlock <| Fin.then <| DC.region ?_
  refine Zp ?_
  refine Zm ?_
  refine Seq.nil ?_
  refine Ag ⟨i + 1⟩ (by dsimp only; omega) (by dsimp only; omega) ⟨rfl, rfl, rfl, rfl, trivial⟩ (.cons' 1 rfl (Cz fun x _ => Jg he (by omega) x) .nil)
 refine DC.exit <| Ad <| Ad <| Ah <| Fin.then <| Zs ?_
 refine Zm ?_
 iterate 2 refine Za ?_
 refine Zx <| DC.ret ?_
 have hin : i = es.length := by simp at c5; omega
 subst hin
 refine Fin.weak (E' := [(2, _), (3, _)]) ⟨rfl, rfl, trivial⟩ (.cons 0 rfl .nil) ?_
 refine AL (.inl rfl) rfl rfl rfl ?_
 exact .inl ⟨hV, g12, rfl, by rw [Cz (g := fun v => cnt es v) fun v _ => by simp [degA]]⟩
theorem EH : KeyK Tryz.prog 3 encI := keyI Tryz.underlying3
theorem Gs : KeyK Tryz.prog 35 encP := Pw (by kernel_rfl) (fun e x w => by kernel_rfl) (RP (by kernel_rfl)) Rb
theorem G5 : KeyK Tryz.prog 43 encP := Pw (by kernel_rfl) (fun e x w => by kernel_rfl) (RO (by kernel_rfl)) Rb
theorem CG {N : Int} {es : List Pr} {va : Value} {w : World} (h : PrV w va es) : Calls Tryz.prog 41 #[.agg #[.int .i64 N, va]] w (Ret w [] fun v L => L = [] ∧ ∃ b, v = .bool b ∧ (b = true ↔ Vld N es)) := by
 obtain ⟨A, cap, rfl, hr, _, _, hle⟩ := h
 exact Eu N es A cap w hr (by omega)
structure FrI where
 i : Nat
 m : List (Pr × Value)
structure FrJ where
 v : Nat
 rs : RL
structure FrK where
 k : Nat
 pv : Value
 hs : List Int
 sm : List (Int × Value)
/-- What stands in the rows that are done. -/
structure RowsDone (es : List Pr) (ls : List (List Int)) (v : Nat) (rs : RL) : Prop where
 len : rs.length = ls.length
 ok : ∀ (x : Nat) l, x < v → ls[x]? = some l → (∀ u, u ∈ l → ∃ h, IsHalf es x u h) ∧ l.Nodup ∧ (l.length : Int) = cnt es x
 row : ∀ (x : Nat) l r, x < v → ls[x]? = some l → rs[x]? = some r → r.2.length = l.length ∧ ∀ (j : Nat) u h, l[j]? = some u → r.2[j]? = some h → IsHalf es x u h
 nil : ∀ (x : Nat) r, v ≤ x → rs[x]? = some r → r.2 = []
structure RowPart (es : List Pr) (v : Nat) (l : List Int) (j : FrK) : Prop where
 le : j.k ≤ l.length
 len : j.hs.length = j.k
 half : ∀ (q : Nat) u h, l[q]? = some u → j.hs[q]? = some h → IsHalf es v u h
 nd : (l.take j.k).Nodup
 ex : ∀ u, u ∈ l.take j.k → ∃ h, IsHalf es v u h
 seen : ∀ h, lkM j.sm h = if h ∈ j.hs then some (.bool true) else none
theorem LR {N : Int} {es : List Pr} {ls : List (List Int)} {va v : Value} {w0 w : World} {ga gb gc : Nat} (hg : PrV w0 va es) (hl : LsV w0 v ls)
  (hO : Own w0 [] w [blk gc 59 #[.slice none 0 0], blk gb 25 #[v], blk ga 24 #[.int .i64 N, va]]) :
  Calls Tryz.prog 118 #[.pointer (some ⟨ga, 0, none⟩), .pointer (some ⟨gb, 0, none⟩), .pointer (some ⟨gc, 0, none⟩)] w
   (RetP w (idsOf [blk gc 59 #[.slice none 0 0], blk gb 25 #[v], blk ga 24 #[.int .i64 N, va]])
    (fun _ M => RotOk N es ls ∧ ∃ g rs, M = [blk gc 59 #[.slice (some ⟨g, 0, none⟩) N.toNat N.toNat], blk g 44 (rowsV rs).toArray] ++ rowsC 3 rs ∧ RotR es ls (rs.map Prod.snd))
    (fun pv M => ∃ v e, pv = flt v e ∧ (e ≠ 0 ∧ ¬ RotOk N es ls))) := by
 have hg0 := hg
 obtain ⟨A, cap, rfl, hr, hlc, hcm, hle⟩ := hg
 obtain ⟨B, capb, rfl, hrb, hlb, hcb, hleb⟩ := hl
 refine Dh (args := [_, _, _]) Tryz.func118 rfl Tryz.ntmps118 rfl hO.self ?_
 refine Zs ?_
 refine Zu (Ay (vs := [_, _]) rfl rfl Bn Bg rfl (Ak rfl)) ?_
 refine Seq.rel0 rfl rfl (Ar MB rfl rfl rfl (fun w' hw => CG (HB hg0 hO hw))) ?_
 rintro _ ⟨b, rfl, hb⟩
 refine BO rfl rfl Eq rfl rfl rfl (fun w' hw => BN b 0 1 w') ?_ ?_
 ·rintro _ ⟨rfl, hbf⟩
  refine Az <| ?_
  exact Bp ⟨0, 1, rfl, by decide, fun h => by have := hb.2 h.1; rw [hbf] at this; cases this⟩
 rintro _ hbt
 have hV : Vld N es := hb.1 hbt
 refine Zx <| Zs ?_
 refine Zl Ek ?_
 refine Zn TW ?_
 refine Zf BI ?_
 refine Zl AJ ?_
 refine Zo (AN rfl rfl rfl) ?_
 refine BO rfl rfl Eq rfl rfl rfl (fun w' hw => BN _ 0 110 w') ?_ ?_
 ·rintro _ ⟨rfl, hbf⟩
  refine Az <| ?_
  exact Bp ⟨0, 110, rfl, by decide, fun h => by simp at hbf; exact hbf h.2.1⟩
 rintro _ hbN
 have hN : (ls.length : Int) = N := by simpa using hbN
 subst hN
 have hN1 := hV.hi
 have hfew := hV.few
 refine Zx <| Zs ?_
 refine Seq.rel rfl rfl (De (enc := encP) rfl) ?_
 rintro _ _ ⟨gm, rfl, rfl⟩
 simp only [zs]
 refine Za ?_
 refine Zx <| DC.seq <| Zs ?_
 refine Zf Be ?_
 refine Zl Bu ?_
 refine Zn TU ?_
 refine Zm ?_
 refine Zx <| DC.block ?_
 refine DC.loop (ι := FrI) (fun j => j.i ≤ es.length ∧ HalfM es j.i (lkM j.m))
  (fun j => [(0, .pointer (some ⟨ga, 0, none⟩)), (1, .pointer (some ⟨gb, 0, none⟩)), (2, .pointer (some ⟨gc, 0, none⟩)), (3, .map (some gm)), (26, (.slice A es.length cap)), (27, .int .i64 es.length), (28, .int .i64 j.i)])
  (fun j => [mpc encP gm j.m, blk gc 59 #[.slice none 0 0], blk gb 25 #[.slice B ls.length capb], blk ga 24 #[.int .i64 (ls.length : Int), (.slice A es.length cap)]]) (fun j => es.length - j.i) ⟨0, []⟩ ⟨Nat.zero_le _, Mu es⟩ ⟨rfl, rfl, rfl, rfl, rfl, rfl, rfl, trivial⟩ (.cons 0 rfl (.cons 0 rfl (.cons 0 rfl (.cons 0 rfl .nil)))) ?_
 rintro ⟨i, m⟩ ⟨hi, hm⟩
 dsimp only at hi hm ⊢
 refine Zs ?_
 refine Zc ?_
 refine Zx <| DC.seq ?_
 refine Zd (fun c4 => ?_) fun c4 => ?_
 ·have hlt : i < es.length := by simpa using c4
  obtain ⟨e, he⟩ : ∃ e, es[i]? = some e := ⟨_, Tz hlt⟩
  obtain ⟨ad, rfl, hU, hVe⟩ := hr.pair he
  refine DC.skip <| Fin.then <| DC.seq <| DC.block <| Zs ?_
  refine Zm ?_
  refine Zo (AM rfl rfl rfl TU AY (by omega) (by omega) (by first | exact AC _ _ | exact Bj _ _ _ | rfl)) ?_
  refine Zu (Ay (vs := [_, _]) rfl rfl B3 AY rfl (Ol hO hU hVe)) ?_
  refine Zw (AD rfl CE rfl) fun g5 => ?_
  refine Za ?_
  refine Zy (At (cs' := #[_, _]) rfl rfl rfl AY rfl (TB rfl) rfl) ?_
  refine Zx ?_
  refine AF (cl := [.q, .q, .q, .q, .q, .q, .q, .q, .q, .q, .q, .q, .q, .q, .q, .q, .q, .g, .g]) (A := [0, 0, 2, 0, 8, 30, 0, 0, 128, 0, 512, 1920, 0, 4096, 0, 16384, 49152, 12351, 262143]) (order := [0, 1, 2, 3, 4, 5, 6, 7, 8, 9, 10, 11, 12, 13, 14, 15, 16, 17, 18]) ([blk g5 43 #[.int .i64 e.1, .int .i64 e.2]]) mixed (by kernel_rfl) (fun w hw => hw.pick (.cons 0 rfl .nil)) ?_
  refine Ym ?_
  refine Yf Bb ?_
  refine Flow.old rfl rfl rfl (Ai rfl rfl AJ (BJ rfl)) ?_
  refine Yf Bk ?_
  refine Flow.old rfl rfl rfl (Ai rfl rfl AJ (BJ rfl)) ?_
  refine Yo rfl (GY (cs := #[.int .i64 e.1, .int .i64 e.2]) rfl rfl (by kernel_rfl)) ?_
  refine Ym ?_
  refine Yf Bk ?_
  refine Flow.old rfl rfl rfl (Ai rfl rfl AJ (BJ rfl)) ?_
  refine Yf Bb ?_
  refine Flow.old rfl rfl rfl (Ai rfl rfl AJ (BJ rfl)) ?_
  refine Yo rfl (GY (cs := #[.int .i64 e.2, .int .i64 e.1]) rfl rfl (by kernel_rfl)) ?_
  refine Ym ?_
  refine Yo rfl (Cl rfl rfl rfl (by omega)) ?_
  refine Ym ?_
  refine Yo rfl (Cl rfl rfl rfl (by omega)) ?_
  refine Yo rfl (CI rfl rfl rfl (by omega)) ?_
  refine AS rfl rfl rfl rfl (BX (k := (e.1, e.2)) 1 rfl Gs rfl rfl rfl rfl Tryz.underlying191 rfl) (fun w hw => hw.pick (.cons 0 rfl .nil)) ?_
  refine AS rfl rfl rfl rfl (BX (k := (e.2, e.1)) 1 rfl Gs rfl rfl rfl rfl Tryz.underlying191 rfl) (fun w hw => hw.pick (.cons 0 rfl .nil)) ?_
  refine Flow.end rfl ?_
  simp only [zq, zr]
  refine Fin.inBlock <| Fin.then <| DC.region ?_
  refine Zp ?_
  refine Zm ?_
  refine Seq.nil ?_
  refine Ag ⟨i + 1, putM (e.2, e.1) (.int .i64 (2 * (i : Int) + 1)) (putM (e.1, e.2) (.int .i64 (2 * (i : Int))) m)⟩ (by dsimp only; omega) ⟨by dsimp only; omega, ?_⟩ ⟨rfl, rfl, rfl, rfl, rfl, rfl, rfl, trivial⟩ (.cons 1 rfl (.cons 1 rfl (.cons 1 rfl (.cons 1 rfl .nil))))
  have := Mv hV he hm
  intro p v
  dsimp only
  rw [D4, D4]
  exact this p v
 refine DC.exit <| Ad <| Ad <| Ah <| Fin.then <| Zs ?_
 refine Zu (Ay (vs := [_, _]) rfl rfl Bn Bg rfl (Ak rfl)) ?_
 refine Seq.rel rfl rfl (Ar Rq rfl rfl rfl (fun w' hw => E9 (HB hg0 hO hw))) ?_
 intro v53 L53 hC53
 obtain ⟨_, gd, rfl, rfl⟩ := hC53.resolve_right (fun h => h.1 hV)
 simp only [TC, List.cons_append, List.nil_append]
 refine Zm ?_
 iterate 2 refine Ze ?_
 iterate 2 refine Za ?_
 refine Zx <| Zs ?_
 refine Zf BI ?_
 refine Zl AJ ?_
 refine Zw (Ca (k := ls.length) (cs := (rowsV (List.replicate ls.length (.slice none 0 0, []))).toArray) rfl rfl rfl TY BE IH Da rfl (by omega) (by omega) (by rw [FK _ rfl]; simp [rowsV])) fun g58 => ?_
 refine Zy (AE (cs' := #[_]) rfl rfl rfl sz59 rfl (TB rfl) rfl) ?_
 refine Zx <| Zs ?_
 refine Zl Ek ?_
 refine Zn TW ?_
 refine Zm ?_
 refine Zx <| DC.block ?_
 have hie : i = es.length := by simp at c4; omega
 subst hie
 refine DC.own (fun w hw => Pc (t := 3) ls.length hw) ?_
 refine DC.loop (ι := FrJ) (fun j => j.v ≤ ls.length ∧ RowsDone es ls j.v j.rs)
  (fun j => [(0, .pointer (some ⟨ga, 0, none⟩)), (1, .pointer (some ⟨gb, 0, none⟩)), (2, .pointer (some ⟨gc, 0, none⟩)), (3, .map (some gm)), (6, .slice (some ⟨gd, 0, none⟩) ls.length ls.length), (59, .slice B ls.length capb), (60, .int .i64 ls.length), (61, .int .i64 j.v)])
  (fun j => [blk g58 44 (rowsV j.rs).toArray, blk gd 3 (ints (tab ls.length (fun v => cnt es v))).toArray, mpc encP gm m, blk gc 59 #[.slice (some ⟨g58, 0, none⟩) ls.length ls.length], blk gb 25 #[.slice B ls.length capb], blk ga 24 #[.int .i64 (ls.length : Int), (.slice A es.length cap)]] ++ rowsC 3 j.rs) (fun j => ls.length - j.v) ⟨0, List.replicate ls.length (.slice none 0 0, [])⟩
  ⟨Nat.zero_le _, ⟨by simp, fun _ _ h => absurd h (TS _), fun _ _ _ h => absurd h (TS _), fun x r _ hx => by simp [List.getElem?_replicate] at hx; rw [← hx.2]⟩⟩ ⟨rfl, rfl, rfl, rfl, rfl, rfl, rfl, rfl, trivial⟩ (Pick.all _) ?_
 rintro ⟨v, rs⟩ ⟨hv, hd⟩
 dsimp only at hv hd ⊢
 simp only [zs]
 refine Zs ?_
 refine Zc ?_
 refine Zx <| DC.seq ?_
 refine Zd (fun c11 => ?_) fun c11 => ?_
 ·have hvlt : v < ls.length := by simpa using c11
  obtain ⟨l, hl⟩ : ∃ l, ls[v]? = some l := ⟨_, Tz hvlt⟩
  obtain ⟨adb, lv, rfl, hc, Al, capl, rfl, hrl, hl1, hl2, hl3⟩ := hrb v l hl
  have hrlen := hd.len
  obtain ⟨p0, hp0⟩ : ∃ p, rs[v]? = some p := ⟨_, Tz (by omega)⟩
  have hp0n := hd.nil v p0 (Nat.le_refl _) hp0
  obtain ⟨pv0, hs0⟩ := p0
  dsimp only at hp0n
  subst hp0n
  have hset0 : rs.set v (pv0, []) = rs := by
   apply List.ext_getElem?
   intro q
   rw [List.getElem?_set]
   split
   ·rename_i e; subst e; rw [if_pos (by omega)]; exact hp0.symm
   rfl
  refine DC.skip <| Fin.then <| DC.seq <| DC.block <| Zs ?_
  refine Zm ?_
  refine Zi TW BE ?_
  refine Zu (Ai rfl rfl BA (FO hO hc)) ?_
  iterate 2 refine Za ?_
  refine Zx <| Zs ?_
  refine Seq.rel rfl rfl (De (enc := encI) rfl) ?_
  rintro _ _ ⟨gs, rfl, rfl⟩
  simp only [zs]
  refine Za ?_
  refine Zx <| DC.seq <| Zs ?_
  refine Zm ?_
  refine Zn TT ?_
  refine Zm ?_
  refine Zx <| DC.block ?_
  refine DC.loop (ι := FrK) (fun j => RowPart es v l j)
   (fun j => [(0, .pointer (some ⟨ga, 0, none⟩)), (1, .pointer (some ⟨gb, 0, none⟩)), (2, .pointer (some ⟨gc, 0, none⟩)), (3, .map (some gm)), (6, .slice (some ⟨gd, 0, none⟩) ls.length ls.length), (8, .int .i64 v), (9, .slice Al l.length capl), (10, .map (some gs)), (59, .slice (some adb) ls.length capb), (60, .int .i64 ls.length), (61, .int .i64 v), (67, .slice Al l.length capl), (68, .int .i64 l.length), (69, .int .i64 j.k)])
   (fun j => [mpc encI gs j.sm, blk g58 44 (rowsV (rs.set v (j.pv, j.hs))).toArray, blk gd 3 (ints (tab ls.length (fun v => cnt es v))).toArray, mpc encP gm m, blk gc 59 #[.slice (some ⟨g58, 0, none⟩) ls.length ls.length], blk gb 25 #[.slice (some adb) ls.length capb], blk ga 24 #[.int .i64 (ls.length : Int), (.slice A es.length cap)]] ++ rowsC 3 (rs.set v (j.pv, j.hs))) (fun j => l.length - j.k) ⟨0, pv0, [], []⟩
   ⟨Nat.zero_le _, rfl, by simp, by simp, by simp, by simp⟩ ⟨rfl, rfl, rfl, rfl, rfl, rfl, rfl, rfl, rfl, rfl, rfl, rfl, rfl, rfl, trivial⟩ (by dsimp only; rw [hset0]; exact Pick.all _) ?_
  rintro ⟨k, pv, hs, sm⟩ hR
  have hRle := hR.le
  have hRlen := hR.len
  dsimp only at hRle hRlen ⊢
  simp only [zs]
  refine Zs ?_
  refine Zc ?_
  refine Zx <| DC.seq ?_
  refine Zd (fun c15 => ?_) fun c15 => ?_
  ·have hklt : k < l.length := by simpa using c15
   obtain ⟨u, hu⟩ : ∃ u, l[k]? = some u := ⟨_, Tz hklt⟩
   obtain ⟨adl, rfl, hcu⟩ := hrl.int hu
   refine DC.skip <| Fin.then <| DC.seq <| DC.block <| Zs ?_
   refine Zi TT AQ ?_
   refine Zu (Ai rfl rfl AJ (FO hO hcu)) ?_
   refine Za ?_
   refine Zx <| Zs ?_
   iterate 3 refine Zm ?_
   refine Zo (GY (cs := #[.int .i64 v, .int .i64 u]) rfl rfl (by kernel_rfl)) ?_
   obtain ⟨x0, jn, hlk, hj1, hj2⟩ : ∃ x0 jn, (if true then (.tuple #[(lkM m ((v : Int), u)).getD (.int .i64 0), .bool (lkM m ((v : Int), u)).isSome] : Value) else (lkM m ((v : Int), u)).getD (.int .i64 0)) = .tuple #[x0, .bool jn] ∧ (jn = true → ∃ h, x0 = .int .i64 h ∧ IsHalf es v u h) ∧ (jn = false → ∀ h, ¬ IsHalf es v u h) := by
    refine ⟨_, _, rfl, fun hj => ?_, fun hj h hh => ?_⟩
    ·obtain ⟨x, hx⟩ := Option.isSome_iff_exists.1 hj
     obtain ⟨h, rfl, hh, _⟩ := (hm _ _).1 hx
     exact ⟨h, by rw [hx]; rfl, hh⟩
    have := (hm ((v : Int), u) (.int .i64 h)).2 ⟨h, rfl, hh, by have := hh.hi; omega⟩
    rw [this] at hj; cases hj
   refine Zu (C3 (k := ((v : Int), u)) 3 rfl Gs rfl rfl rfl Tryz.underlying191 B0 hlk) ?_
   refine Zm ?_
   iterate 2 refine Ze ?_
   iterate 2 refine Za ?_
   refine Zx <| Zs ?_
   iterate 2 refine Zm ?_
   refine BO rfl rfl Eq rfl rfl rfl (fun w' hw => BN jn v 111 w') ?_ ?_
   ·rintro _ ⟨rfl, hbf⟩
    refine Az <| AB <| Az <| Az <| AB <| Az <| AB <| Az <| Az <| AB <| ?_
    refine Bp ⟨v, 111, rfl, by decide, fun h => ?_⟩
    obtain ⟨h1, hh⟩ := (h.2.2 v l hl).1 u (TD hu)
    exact hj2 hbf h1 hh
   rintro _ hjt
   obtain ⟨h, rfl, hh⟩ := hj1 hjt
   refine Zx <| Zs ?_
   iterate 2 refine Zm ?_
   refine Zu (C3 (ok := false) (v := .bool (decide (h ∈ hs))) (k := h) 0 rfl EH rfl rfl rfl Tryz.underlying194 Rv (by rw [hR.seen h]; dsimp only; by_cases hm : h ∈ hs <;> simp [hm])) ?_
   refine Zo (Bd rfl rfl) ?_
   refine Zm ?_
   refine BO rfl rfl Eq rfl rfl rfl (fun w' hw => BN _ v 112 w') ?_ ?_
   ·rintro _ ⟨rfl, hbf⟩
    refine Az <| AB <| Az <| Az <| AB <| Az <| AB <| Az <| Az <| AB <| ?_
    refine Bp ⟨v, 112, rfl, by decide, fun hok => ?_⟩
    have hin : h ∈ hs := by simpa using hbf
    obtain ⟨q, hq⟩ := TF.1 hin
    have hqk : q < k := by have := (TA.1 hq).1; omega
    obtain ⟨u', hu'⟩ : ∃ u', l[q]? = some u' := ⟨_, Tz (by omega)⟩
    have h1 := (hR.half q u' h hu' hq).to
    have h2 := hh.to
    have hnd := (hok.2.2 v l hl).2.1
    have : q = k := by
     exact (List.getElem?_inj (by omega) hnd).1 (by rw [hu', hu, ← h1, h2])
    omega
   rintro _ hnin
   have hni : h ∉ hs := by simpa using hnin
   refine Zx <| Zs ?_
   iterate 2 refine Zm ?_
   refine Zy (BX (k := h) 0 rfl EH rfl rfl rfl rfl Tryz.underlying194 rfl) ?_
   simp only [List.set_cons_zero]
   refine Zx ?_
   obtain ⟨rs1, hrs1⟩ : ∃ rs1, rs1 = rs.set v (pv, hs) := ⟨_, rfl⟩
   have hl1 : rs1.length = ls.length := by rw [hrs1]; simp [hrlen]
   have hp1 : rs1[v]? = some (pv, hs) := by rw [hrs1, List.getElem?_set_self (by omega)]
   rw [← hrs1]
   refine AF (cl := [.q, .q, .q, .q, .q, .v, .q, .n, .g, .q, .g]) (A := [0, 0, 0, 0, 12, 28, 0, 64, 252, 511, 1023]) (order := [0, 1, 2, 3, 4, 5, 6, 7, 8, 9, 10]) ([blk gc 59 #[.slice (some ⟨g58, 0, none⟩) ls.length ls.length]]) mixed (by kernel_rfl) (fun w hw => hw.pick (.cons 4 rfl .nil)) ?_
   refine Flow.old rfl rfl rfl (Ai rfl rfl Q6 (BJ rfl)) ?_
   refine Ym ?_
   refine Flow.old rfl rfl rfl (Ai rfl rfl Q6 (BJ rfl)) ?_
   refine Ym ?_
   refine Yo rfl (Aj rfl rfl rfl TY BE (by omega) (by omega) (by first | exact AC _ _ | exact Bj _ _ _ | rfl)) ?_
   refine Am rfl rfl rfl rfl (Ai rfl rfl BA (Bi (IQ hp1))) ?_
   refine Ym ?_
   refine BD rfl rfl rfl rfl (AP (cs := #[_]) rfl rfl TT AQ B0 rfl (by decide) (by decide) rfl rfl) fun g99 => ?_
   refine DS (V := blk g99 3 #[.int .i64 h] :: mpc encI gs (putM h (.bool true) sm) :: blk g58 44 (rowsV rs1).toArray :: blk gd 3 (ints (tab ls.length (fun v => cnt es v))).toArray :: mpc encP gm m :: blk gc 59 #[.slice (some ⟨g58, 0, none⟩) ls.length ls.length] :: blk gb 25 #[.slice (some adb) ls.length capb] :: blk ga 24 #[.int .i64 (ls.length : Int), (.slice A es.length cap)] :: rowsC 3 rs1) rfl rfl rfl rfl rfl
    (Gen.shape (AK (F := [blk g99 3 #[.int .i64 h], mpc encI gs (putM h (.bool true) sm), blk g58 44 (rowsV rs1).toArray, blk gd 3 (ints (tab ls.length (fun v => cnt es v))).toArray, mpc encP gm m, blk gc 59 #[.slice (some ⟨g58, 0, none⟩) ls.length ls.length], blk gb 25 #[.slice (some adb) ls.length capb], blk ga 24 #[.int .i64 (ls.length : Int), (.slice A es.length cap)]] ++ rowsC 3 (rs1.eraseIdx v)) (vs := ints hs) (k := 1) (news := [.int .i64 h]) rfl rfl rfl TT AQ DE B0 rfl (by decide) (by decide)
     (fun w hw => hw.perm (GU hp1 _).symm) (.inl ⟨_, _, rfl, Ak rfl⟩) rfl (by intro u hu; simp at hu; subst hu; rfl) (by rw [ints_length]; omega))) (fun v L' hC w hw => by obtain ⟨_, rfl⟩ := hC; exact hw.pick (.cons 6 rfl .nil)) ?_
   rintro _ _ ⟨⟨A1, l1, c1, rfl⟩, rfl⟩
   simp only [zs]
   refine Yo rfl (Aj rfl rfl rfl TY BE (by omega) (by omega) (by first | exact AC _ _ | exact Bj _ _ _ | rfl)) ?_
   refine AS rfl rfl rfl rfl (AE (cs' := (rowsV (rs1.set v (.slice A1 l1 c1, hs ++ [h]))).toArray) rfl rfl rfl BE rfl (by simp; omega) (NS rs1 v (.slice A1 l1 c1, hs ++ [h]))) (fun w hw => hw.pick (.cons 6 rfl .nil)) ?_
   refine Flow.end rfl ?_
   simp only [zq, zr]
   refine Fin.own (M := [mpc encI gs (putM h (.bool true) sm), blk g58 44 (rowsV (rs1.set v (.slice A1 l1 c1, hs ++ [h]))).toArray, blk gd 3 (ints (tab ls.length (fun v => cnt es v))).toArray, mpc encP gm m, blk gc 59 #[.slice (some ⟨g58, 0, none⟩) ls.length ls.length], blk gb 25 #[.slice (some adb) ls.length capb], blk ga 24 #[.int .i64 (ls.length : Int), (.slice A es.length cap)]] ++ rowsC 3 (rs1.set v (.slice A1 l1 c1, hs ++ [h]))) (fun w hw => ?_) ?_
   ·have h4 := (hw.pick (.cons 1 rfl (Pick.all _))).sub (TG ..)
    have h5 := h4.pick (L' := slc (.slice A1 l1 c1) 3 1 (ints (hs ++ [h])) :: ([mpc encI gs (putM h (.bool true) sm), blk g58 44 (rowsV (rs1.set v (.slice A1 l1 c1, hs ++ [h]))).toArray, blk gd 3 (ints (tab ls.length (fun v => cnt es v))).toArray, mpc encP gm m, blk gc 59 #[.slice (some ⟨g58, 0, none⟩) ls.length ls.length], blk gb 25 #[.slice (some adb) ls.length capb], blk ga 24 #[.int .i64 (ls.length : Int), (.slice A es.length cap)]] ++ rowsC 3 (rs1.eraseIdx v))) (.cons' 0 rfl (by rw [AU]; rfl) (Pick.all _))
    exact h5.perm (OV (.slice A1 l1 c1, hs ++ [h]) (by omega) _).symm
   rw [hrs1, List.set_set]
   refine Fin.inBlock <| Fin.then <| DC.region ?_
   refine Zp ?_
   refine Zm ?_
   refine Seq.nil ?_
   refine Ag (FrK.mk (k + 1) (.slice A1 l1 c1) (hs ++ [h]) (putM h (.bool true) sm)) (by dsimp only; omega) ?_ ⟨rfl, rfl, rfl, rfl, rfl, rfl, rfl, rfl, rfl, rfl, rfl, rfl, rfl, rfl, trivial⟩ (Pick.all _)
   have htk : l.take (k + 1) = l.take k ++ [u] := by rw [List.take_add_one, hu]; rfl
   refine ⟨by dsimp only; omega, by simp [hRlen], ?_, ?_, ?_, ?_⟩
   ·intro q u' h' hu' hh'
    dsimp only at hh'
    rw [List.getElem?_append] at hh'
    split at hh'
    ·exact hR.half q u' h' hu' hh'
    have hqk : q = k := by
     have : q - hs.length < 1 := by have := (TA.1 hh').1; simpa using this
     omega
    subst hqk
    rw [hu] at hu'; cases hu'
    rw [show q - hs.length = 0 by omega] at hh'
    cases hh'; exact hh
   ·dsimp only
    rw [htk, List.nodup_append]
    refine ⟨hR.nd, by simp, fun a ha b hb e => ?_⟩
    simp at hb; subst hb; subst e
    obtain ⟨q, hq⟩ := TF.1 ha
    rw [List.getElem?_take] at hq
    split at hq
    ·rename_i hqk
     obtain ⟨h', hh'⟩ : ∃ h', hs[q]? = some h' := ⟨_, Tz (by omega)⟩
     have := (hR.half q a h' hq hh').uniq hV hh
     subst this
     exact hni (TD hh')
    cases hq
   ·dsimp only
    intro u' hu'
    rw [htk, List.mem_append] at hu'
    rcases hu' with hu' | hu'
    ·exact hR.ex u' hu'
    simp at hu'; subst hu'; exact ⟨h, hh⟩
   intro h'
   dsimp only
   rw [D4, hR.seen h']
   by_cases e : h' = h
   ·subst e; simp
   simp [e]
  refine DC.exit <| Ad <| Ad <| Ah <| Fin.then ?_
  have hkl : k = l.length := by simp at c15; omega
  subst hkl
  obtain ⟨rs1, hrs1⟩ : ∃ rs1, rs1 = rs.set v (pv, hs) := ⟨_, rfl⟩
  rw [← hrs1]
  have hnd := hR.nd
  have hex := hR.ex
  dsimp only at hnd hex
  rw [List.take_length] at hnd hex
  refine DC.region ?_
  refine Zm ?_
  refine Zn TT ?_
  iterate 2 refine Zm ?_
  refine Zi TT AQ ?_
  refine Zu (Ai rfl rfl AJ (Bi (Bt hvlt))) ?_
  refine Zo (AN rfl rfl rfl) ?_
  refine Zm ?_
  refine BO rfl rfl Eq rfl rfl rfl (fun w' hw => BN _ v 113 w') ?_ ?_
  ·rintro _ ⟨rfl, hbf⟩
   refine AB <| Az <| Az <| AB <| ?_
   refine Bp ⟨v, 113, rfl, by decide, fun hok => ?_⟩
   have := (hok.2.2 v l hl).2.2
   simp at hbf
   exact hbf this
  rintro _ hbt3
  have hcnt : (l.length : Int) = cnt es v := by simpa using hbt3
  refine Seq.nil <| Fin.inBlock <| Fin.then <| DC.region ?_
  refine Zp ?_
  refine Zm ?_
  refine Seq.nil ?_
  refine Fin.own (fun w hw => hw.sub (TG ..)) ?_
  refine Ag (FrJ.mk (v + 1) rs1) (by dsimp only; omega) ⟨by dsimp only; omega, ?_⟩ ⟨rfl, rfl, rfl, rfl, rfl, rfl, rfl, rfl, trivial⟩ (Pick.all _)
  subst hrs1
  refine ⟨by simp [hrlen], ?_, ?_, ?_⟩
  ·intro x l' hx hl'
   dsimp only at hx
   rcases TE.1 hx with hx | rfl
   ·exact hd.ok x l' hx hl'
   rw [hl] at hl'; cases hl'
   exact ⟨hex, hnd, hcnt⟩
  ·intro x l' r hx hl' hr'
   dsimp only at hx
   rw [List.getElem?_set] at hr'
   split at hr'
   ·rename_i e; subst e
    rw [if_pos (by omega)] at hr'
    cases hr'
    rw [hl] at hl'; cases hl'
    exact ⟨hRlen, hR.half⟩
   exact hd.row x l' r (by omega) hl' hr'
  intro x r hx hr'
  dsimp only at hx
  rw [List.getElem?_set_ne (by omega)] at hr'
  exact hd.nil x r (by omega) hr'
 refine DC.exit <| Ad <| Ad <| Ah ?_
 have hvl : v = ls.length := by simp at c11; omega
 subst hvl
 refine Fin.weak (E' := []) trivial (.cons 3 rfl (.cons 0 rfl (.cons 0 rfl (.cons 0 rfl (.cons 0 rfl (.cons 0 rfl (Pick.all _))))))) ?_
 refine Fin.own (M := [blk gc 59 #[.slice (some ⟨g58, 0, none⟩) ls.length ls.length], blk g58 44 (rowsV rs).toArray] ++ rowsC 3 rs) (fun w hw => hw.sub (.cons_cons _ (.cons_cons _ (.cons _ (.cons _ (.cons _ (.cons _ (List.Sublist.refl _)))))))) ?_
 refine Dv (.inr rfl) (Cb (.inr rfl) rfl ⟨⟨hV, rfl, fun x l hl => hd.ok x l (TA.1 hl).1 hl⟩, g58, rs, by simp, by simp [hd.len], fun x l r hl hr => ?_⟩)
 rw [List.getElem?_map, Option.map_eq_some_iff] at hr
 obtain ⟨p, hp, rfl⟩ := hr
 exact hd.row x l p (TA.1 hl).1 hl hp
/-- rot.From: the rotation, or a fault. -/
theorem GK {N : Int} {es : List Pr} {ls : List (List Int)} {va v : Value} {w : World} (hg : PrV w va es) (hl : LsV w v ls) :
  Calls Tryz.prog 94 #[.agg #[.int .i64 N, va], v] w (Ret w [] fun r M =>
   (RotOk N es ls ∧ ∃ g rs, r = .tuple #[.slice (some ⟨g, 0, none⟩) N.toNat N.toNat, .int .i64 0, .int .i64 0] ∧ M = [blk g 44 (rowsV rs).toArray] ++ rowsC 3 rs ∧ RotR es ls (rs.map Prod.snd)) ∨
   (¬ RotOk N es ls ∧ M = [] ∧ ∃ x e, r = .tuple #[.slice none 0 0, .int .i64 x, .int .i64 e] ∧ e ≠ 0)) := by
 have hg0 := hg
 have hl0 := hl
 obtain ⟨A, cap, rfl, hr, hlc, hcm, hle⟩ := hg
 obtain ⟨B, capb, rfl, hrb, hlb, hcb, hleb⟩ := hl
 refine Ao (args := [_, _]) (L := []) Tryz.func94 rfl Tryz.ntmps94 rfl (Own.start _ _) ?_
 refine Zs ?_
 refine Zw (Ba rfl rfl rfl) fun g2 => ?_
 refine Zw (Ba rfl rfl rfl) fun g3 => ?_
 iterate 3 refine Za ?_
 refine Zx <| Zs ?_
 refine Zw (AD rfl ze59 rfl) fun g7 => ?_
 refine Zx <| DC.seq ?_
 refine DC.own (M := [blk g7 59 #[.slice none 0 0], blk g3 25 #[.slice B ls.length capb], blk g2 24 #[.int .i64 N, .slice A es.length cap]]) (fun w hw => hw) ?_
 refine DC.region ?_
 refine Zo (Gh rfl rfl rfl) ?_
 refine Seq.gen rfl rfl (Bh Rr rfl rfl rfl (Lc := [blk g7 59 #[.slice none 0 0], blk g3 25 #[.slice B ls.length capb], blk g2 24 #[.int .i64 N, .slice A es.length cap]]) (F := []) (.refl _) (fun k hk => hk)
  (fun w' hw => FZ (cap := #[.pointer (some ⟨g2, 0, none⟩), .pointer (some ⟨g3, 0, none⟩), .pointer (some ⟨g7, 0, none⟩)]) (C := fun M => RotOk N es ls ∧ ∃ (g : Nat) (rs : RL), M = [blk g7 59 #[.slice (some ⟨g, 0, none⟩) N.toNat N.toNat], blk g 44 (rowsV rs).toArray] ++ rowsC 3 rs ∧ RotR es ls (rs.map Prod.snd))
   (D := fun v e M => e ≠ 0 ∧ ¬ RotOk N es ls) Td hw.self (fun w'' hw'' => LR hg0 hl0 (by simpa using Own.frame (F := []) (by simpa using hw) hw'' (fun k hk => hk))))) ?_
 rintro v12 _ ⟨M, hC, rfl⟩
 have hD : (∃ v e, v12 = .tuple #[.int .i64 v, .int .i64 e] ∧ ((v = 0 ∧ e = 0 ∧ RotOk N es ls ∧ ∃ g rs, M = [blk g7 59 #[.slice (some ⟨g, 0, none⟩) N.toNat N.toNat], blk g 44 (rowsV rs).toArray] ++ rowsC 3 rs ∧ RotR es ls (rs.map Prod.snd)) ∨ (e ≠ 0 ∧ ¬ RotOk N es ls))) := by
  rcases hC with ⟨rfl, hC⟩ | ⟨v, e, rfl, hC⟩
  ·exact ⟨0, 0, rfl, .inl ⟨rfl, rfl, hC⟩⟩
  exact ⟨v, e, rfl, .inr hC⟩
 clear hC
 obtain ⟨xv, xe, rfl, hD⟩ := hD
 refine Zm ?_
 iterate 2 refine Ze ?_
 iterate 2 refine Za ?_
 refine Zx <| DC.seq <| Zs ?_
 refine Zm ?_
 refine Zo (BK rfl rfl rfl) ?_
 refine Zx ?_
 refine Zd (fun c3 => ?_) fun c3 => ?_
 ·have hbad : xe ≠ 0 ∧ ¬ RotOk N es ls := by
   rcases hD with ⟨_, h0, _⟩ | h
   ·subst h0; simp at c3
   exact h
  refine Zs ?_
  iterate 2 refine Zm ?_
  iterate 3 refine Za ?_
  refine Zx <| DC.ret <| Aa ?_
  refine Fin.weak (E' := [(4, _), (5, _), (6, _)]) ⟨rfl, rfl, rfl, trivial⟩ .nil ?_
  refine Bo (.inl rfl) rfl rfl rfl rfl ?_
  exact .inr ⟨hbad.2, rfl, xv, xe, rfl, hbad.1⟩
 have h0 : xe = 0 := by simpa using c3
 obtain ⟨_, _, hok, g, rs, rfl, hrr⟩ := hD.resolve_right (fun h => h.1 h0)
 simp only [List.cons_append, List.nil_append, List.append_nil]
 refine DC.skip <| Fin.then <| Zs ?_
 refine Zl Q6 ?_
 iterate 3 refine Za ?_
 refine Zx <| DC.ret ?_
 refine Fin.weak (E' := [(4, _), (5, _), (6, _)]) ⟨rfl, rfl, rfl, trivial⟩ (.cons 1 rfl (Pick.all _)) ?_
 refine Fin.own (M := blk g 44 (rowsV rs).toArray :: rowsC 3 rs) (fun w hw => hw.sub (.cons_cons _ (.cons _ (List.Sublist.refl _)))) ?_
 refine Bo (.inl rfl) rfl rfl rfl rfl ?_
 exact .inl ⟨hok, g, rs, rfl, by simp, hrr⟩
end Go.Fl

namespace Go.Fl
open Go
section
variable {P : Program} {ops : Array Oper} {w0 w : World} {K : List Nat} {n : Nat} {ds : List Deferred} {E : Env} {L F : List Chunk} {o : Oper} {x y z : Operand} {v u : Value}
theorem Ni {t e m b : Nat} {zv : Value} {len cap : Int} {l k : Nat} {cs : Array Value} (ho : o.op = .makeSlice t x y) (hx : ev n E x = some (.int .i64 len)) (hy : ev n E y = some (.int .i64 cap))
  (ht : P.underlying t = some (.slice e)) (hm : sizeT P e = some m) (hb : bytesT P e = some b) (hz : zeroT P e = some zv) (hl : len = (l : Nat)) (hk : cap = (k : Nat)) (hlk : l ≤ k) (hbytes : b * k ≤ 281474976710656) (h63 : k ≤ 9223372036854775807)
  (hc : madeCells zv.cells (k * m) = cs) : New P n ds E o (.sl l k) e cs := by
 intro a w ha
 subst hl hk hc
 obtain ⟨i, hi, h1, h2, h3⟩ := FN hm hb hz
 subst h1 h2
 have := run_make (P := P) w t e i zv ht hi h3 .i64 .i64 l k (by omega) (by omega) (by rw [← Int.natCast_mul]; omega) (by omega)
 simp only [TC] at this
 simp [execOp, ho, ha.ev hx, ha.ev hy, this, NewV.val]
theorem BU {i j t l c : Nat} {ad : Addr} {xs : List Int} {q : Int} (hi : L[i]? = some (slc (.slice (some ad) l c) t 1 (ints xs))) (hj : xs[j]? = some q) (hf : xs.length ≤ 17592186044416) : Has w0 K L (ad.add j) (.int .i64 q) := by
 intro w hw
 obtain ⟨A, cap, e, hr, _⟩ := Ck hw i hi hf
 cases e
 obtain ⟨ad', e, hc⟩ := hr.int hj
 cases e; exact hc
theorem DC.slcs {Q : Exit → Act → World → Prop} {cd : Code} {i t : Nat} {xs : List Int} (hi : L[i]? = some (slc v t 1 (ints xs))) (hf : xs.length ≤ 17592186044416)
  (h : ∀ A c, v = .slice A xs.length c → (xs ≠ [] → ∃ ad, A = some ad) → DC P w0 K n ds Q cd E L) : DC P w0 K n ds Q cd E L := by
 intro a w ha hw
 obtain ⟨A, cap, e, hr, _⟩ := Ck hw i hi hf
 refine h A cap e (fun hne => ?_) a w ha hw
 obtain ⟨q, hq⟩ : ∃ q, xs[0]? = some q := ⟨_, Tz (List.length_pos_iff.2 hne)⟩
 obtain ⟨ad, e, _⟩ := hr.int hq
 exact ⟨ad, e⟩
theorem Lk {i j t l c : Nat} {ad : Addr} {vs : List Value} {q : Value} (hi : L[i]? = some (slc (.slice (some ad) l c) t 1 vs)) (hj : vs[j]? = some q) : Has w0 K L (ad.add j) q := by
 intro w hw
 obtain ⟨A, len, cap, e, _, hr, _⟩ := BW (hw.perm (AO hi).symm)
 cases e
 obtain ⟨ad', e, hc⟩ := hr j q hj
 cases e; exact hc
theorem F9 {Q : Exit → Act → World → Prop} {cd : Code} {i t : Nat} {vs : List Value} (hi : L[i]? = some (slc v t 1 vs))
  (h : ∀ A c, v = .slice A vs.length c → (vs ≠ [] → ∃ ad, A = some ad) → DC P w0 K n ds Q cd E L) : DC P w0 K n ds Q cd E L := by
 intro a w ha hw
 obtain ⟨A, len, cap, e, hlen, hr, _⟩ := BW (hw.perm (AO hi).symm)
 refine h A cap (by rw [hlen, Nat.mul_one]; exact e) (fun hne => ?_) a w ha hw
 obtain ⟨q, hq⟩ : ∃ q, vs[0]? = some q := ⟨_, Tz (List.length_pos_iff.2 hne)⟩
 obtain ⟨ad, e, _⟩ := hr 0 q hq
 exact ⟨ad, e⟩
theorem QK {g t t' N : Nat} {rs : RL} (hw : Own w0 K w (blk g t' (rowsV rs).toArray :: rowsC t rs)) (hN : rs.length = N) (hb : N ≤ 17592186044416) (hf : ∀ p, p ∈ rs → p.2.length ≤ 17592186044416) : LsV w (.slice (some ⟨g, 0, none⟩) N N) (rs.map Prod.snd) := by
 subst hN
 refine ⟨_, _, by simp; exact ⟨rfl, rfl⟩, fun i l hi => ?_, by simp, by omega, by simpa using hb⟩
 rw [List.getElem?_map, Option.map_eq_some_iff] at hi
 obtain ⟨p, hp, rfl⟩ := hi
 have h1 := hw.holds _ (TI ..)
 refine ⟨_, p.1, rfl, ?_, Hm (F := [blk g t' (rowsV rs).toArray]) hw hp (hf p (TD hp))⟩
 rw [AC, cell_of_row w g i _ t' (0, 0) h1]
 exact IQ hp
end
/-- A rotation by half-edges. -/
def RotL (N : Int) (es : List Pr) (rs : List (List Int)) : Prop :=
 Vld N es ∧ (rs.length : Int) = N ∧ ∀ (v : Nat) l, rs[v]? = some l → (∀ h, h ∈ l → 0 ≤ h ∧ h < es.length * 2 ∧ fromV es h = v) ∧ l.Nodup ∧ (l.length : Int) = cnt es v
theorem GV {N : Int} {es : List Pr} {ls rs : List (List Int)} (ho : RotOk N es ls) (hr : RotR es ls rs) : RotL N es rs := by
 obtain ⟨hV, hN, ho⟩ := ho
 obtain ⟨hl, hr⟩ := hr
 refine ⟨hV, by rw [hl]; exact hN, fun v r hv => ?_⟩
 obtain ⟨l, hlv⟩ : ∃ l, ls[v]? = some l := ⟨_, Tz (by have := (TA.1 hv).1; omega)⟩
 obtain ⟨h1, h2, h3⟩ := ho v l hlv
 obtain ⟨h4, h5⟩ := hr v l r hlv hv
 have h6 : ∀ (j : Nat) h, r[j]? = some h → ∃ u, l[j]? = some u ∧ IsHalf es v u h := fun j h hj => by
  obtain ⟨u, hu⟩ : ∃ u, l[j]? = some u := ⟨_, Tz (by have := (TA.1 hj).1; omega)⟩
  exact ⟨u, hu, h5 j u h hu hj⟩
 refine ⟨fun h hh => ?_, ?_, by rw [h4]; exact h3⟩
 ·obtain ⟨j, hj⟩ := TF.1 hh
  obtain ⟨u, _, h7⟩ := h6 j h hj
  exact ⟨h7.lo, h7.hi, h7.fr⟩
 rw [List.nodup_iff_pairwise_ne, List.pairwise_iff_getElem]
 intro i j hi hj hij e
 have hi' : r[i]? = some r[i] := Tz hi
 have hj' : r[j]? = some r[j] := Tz hj
 obtain ⟨u, hu, h7⟩ := h6 i _ hi'
 obtain ⟨u', hu', h8⟩ := h6 j _ hj'
 have : u = u' := by rw [← h7.to, ← h8.to, e]
 subst this
 have := (List.getElem?_inj (by omega) h2).1 (hu.trans hu'.symm)
 omega
end Go.Fl

namespace Go.Fl
open Go
def updN (p : Nat → Nat) (a x : Nat) : Nat → Nat := fun i => if i = a then x else p i
def Down (p : Nat → Nat) : Prop := ∀ x, p x ≤ x
def rt (p : Nat → Nat) (a : Nat) : Nat := if p a < a then rt p (p a) else a
termination_by a
theorem KG (p : Nat → Nat) : ∀ a, rt p a ≤ a := by
 intro a
 induction a using Nat.strongRecOn with
 | _ a ih =>
  rw [rt]
  split
  ·rename_i h; exact Nat.le_trans (ih _ h) (Nat.le_of_lt h)
  exact Nat.le_refl _
theorem Mc {p : Nat → Nat} (hp : Down p) : ∀ a, p (rt p a) = rt p a := by
 intro a
 induction a using Nat.strongRecOn with
 | _ a ih =>
  rw [rt]
  split
  ·rename_i h; exact ih _ h
  have := hp a; omega
theorem FB {p : Nat → Nat} {a : Nat} (h : p a = a) : rt p a = a := by rw [rt, if_neg (by omega)]
theorem QA {p : Nat → Nat} (hp : Down p) (a : Nat) : rt p (rt p a) = rt p a := FB (Mc hp a)
theorem FA {p : Nat → Nat} (hp : Down p) (a : Nat) : rt p (p a) = rt p a := by
 rw [rt.eq_1 p a]
 split
 ·rfl
 have := hp a
 have : p a = a := by omega
 rw [this]; exact FB this
theorem LA {p : Nat → Nat} (hp : Down p) {a x : Nat} (h : x ≤ a) : Down (updN p a x) := by
 intro i; unfold updN; split
 ·omega
 exact hp i
theorem QB {p : Nat → Nat} (hp : Down p) (a : Nat) : ∀ x, rt (updN p a (p (p a))) x = rt p x := by
 intro x
 induction x using Nat.strongRecOn with
 | _ x ih =>
  rw [rt.eq_1 (updN p a (p (p a))) x]
  by_cases hx : x = a
  ·subst hx
   have e : updN p x (p (p x)) x = p (p x) := by simp [updN]
   rw [e]
   split
   ·rename_i h
    rw [ih _ h, FA hp, FA hp]
   rename_i h
   have h1 := hp (p x)
   have h2 := hp x
   have : p x = x := by omega
   rw [FB this]
  have e : updN p a (p (p a)) x = p x := by simp [updN, hx]
  rw [e]
  split
  ·rename_i h; rw [ih _ h, FA hp]
  rename_i h
  have := hp x
  rw [FB (by omega)]
theorem Qz {p : Nat → Nat} (hp : Down p) {x y : Nat} (hx : p x = x) (hy : p y = y) (h : x < y) : ∀ z, rt (updN p y x) z = if rt p z = y then x else rt p z := by
 intro z
 induction z using Nat.strongRecOn with
 | _ z ih =>
  rw [rt.eq_1 (updN p y x) z]
  by_cases hz : z = y
  ·subst hz
   have e : updN p z x z = x := by simp [updN]
   rw [e, if_pos h, ih x h, FB hx, FB hy, if_pos rfl, if_neg (by omega)]
  have e : updN p y x z = p z := by simp [updN, hz]
  rw [e]
  split
  ·rename_i h1; rw [ih _ h1, FA hp]
  rename_i h1
  have := hp z
  have e2 : rt p z = z := FB (by omega)
  rw [e2, if_neg hz]
/-- Joined by edges. -/
inductive Conn (es : List Pr) : Nat → Nat → Prop
 | refl (a : Nat) : Conn es a a
 | edge (u v : Nat) (h : ((u : Int), (v : Int)) ∈ es) : Conn es u v
 | symm {a b : Nat} (h : Conn es a b) : Conn es b a
 | trans {a b c : Nat} (h : Conn es a b) (k : Conn es b c) : Conn es a c
theorem Conn.mono {es fs : List Pr} (h : ∀ e, e ∈ es → e ∈ fs) {a b : Nat} (c : Conn es a b) : Conn fs a b := by
 induction c with
 | refl a => exact .refl a
 | edge u v h' => exact .edge u v (h _ h')
 | symm _ ih => exact .symm ih
 | trans _ _ ih1 ih2 => exact .trans ih1 ih2
/-- A function parts the numbers as the edges do. -/
def Parts (es : List Pr) (r : Nat → Nat) : Prop := ∀ a b, r a = r b ↔ Conn es a b
theorem NZ : Parts [] (fun a => a) := by
 intro a b
 constructor
 ·rintro rfl; exact .refl _
 intro h
 induction h with
 | refl a => rfl
 | edge u v h => simp at h
 | symm _ ih => exact ih.symm
 | trans _ _ ih1 ih2 => exact ih1.trans ih2
theorem GG {es : List Pr} {r s : Nat → Nat} (h : ∀ x, r x = s x) (hr : Parts es r) : Parts es s := by
 intro a b; rw [← h, ← h]; exact hr a b
theorem Mg {es : List Pr} {r : Nat → Nat} (hr : Parts es r) {u v : Nat} (h : r u = r v) : Parts (es ++ [((u : Int), (v : Int))]) r := by
 intro a b
 constructor
 ·intro hab; exact ((hr a b).1 hab).mono (by simp +contextual)
 intro c
 induction c with
 | refl a => rfl
 | edge x y hxy =>
  rw [List.mem_append] at hxy
  rcases hxy with hxy | hxy
  ·exact (hr x y).2 (.edge x y hxy)
  simp at hxy
  obtain ⟨h1, h2⟩ := hxy
  have h1 : x = u := by omega
  have h2 : y = v := by omega
  subst h1 h2; exact h
 | symm _ ih => exact ih.symm
 | trans _ _ ih1 ih2 => exact ih1.trans ih2
theorem Mh {es : List Pr} {r s : Nat → Nat} (hr : Parts es r) {u v lo hi : Nat} (hs : ∀ z, s z = if r z = hi then lo else r z) (huv : (r u = lo ∧ r v = hi) ∨ (r u = hi ∧ r v = lo)) :
  Parts (es ++ [((u : Int), (v : Int))]) s := by
 have hmono : ∀ {a b}, Conn es a b → Conn (es ++ [((u : Int), (v : Int))]) a b := fun c => c.mono (by simp +contextual)
 have hnew : Conn (es ++ [((u : Int), (v : Int))]) u v := .edge u v (by simp)
 -- a number of the one set, and one of the other
 have cross : ∀ {a b}, r a = hi → r b = lo → Conn (es ++ [((u : Int), (v : Int))]) a b := by
  intro a b ha hb
  rcases huv with ⟨h1, h2⟩ | ⟨h1, h2⟩
  ·exact (hmono ((hr a v).1 (ha.trans h2.symm))).trans (hnew.symm.trans (hmono ((hr u b).1 (h1.trans hb.symm))))
  exact (hmono ((hr a u).1 (ha.trans h1.symm))).trans (hnew.trans (hmono ((hr v b).1 (h2.trans hb.symm))))
 intro a b
 constructor
 ·intro hab
  rw [hs, hs] at hab
  split at hab
  ·rename_i ha
   split at hab
   ·rename_i hb; exact hmono ((hr a b).1 (ha.trans hb.symm))
   exact cross ha hab.symm
  split at hab
  ·rename_i hb; exact (cross hb hab).symm
  exact hmono ((hr a b).1 hab)
 intro c
 induction c with
 | refl a => rfl
 | edge x y hxy =>
  rw [List.mem_append] at hxy
  rcases hxy with hxy | hxy
  ·rw [hs, hs, (hr x y).2 (.edge x y hxy)]
  simp at hxy
  obtain ⟨h1, h2⟩ := hxy
  have h1 : x = u := by omega
  have h2 : y = v := by omega
  subst h1 h2
  rw [hs, hs]
  rcases huv with ⟨h1, h2⟩ | ⟨h1, h2⟩ <;> rw [h1, h2] <;> simp
 | symm _ ih => exact ih.symm
 | trans _ _ ih1 ih2 => exact ih1.trans ih2
def nat (p : Nat → Nat) : Nat → Int := fun i => (p i : Int)
theorem G2 (p : Nat → Nat) (a x : Nat) : upd (nat p) a (x : Int) = nat (updN p a x) := by
 funext i; unfold upd nat updN; split <;> rfl
end Go.Fl

namespace Go.Fl
open Go Go.Proofs
structure UfI where
 a : Nat
 p : Nat → Nat
theorem Ff {g n a : Nat} {p : Nat → Nat} {w : World} (hO : Own w [g] w [blk g 3 (ints (tab n (nat p))).toArray]) (hp : Down p) (ha : a < n) (hn : n ≤ 1048576) :
  Calls Tryz.prog 191 #[.slice (some ⟨g, 0, none⟩) n n, .int .i64 a] w
   (Ret w [g] fun v M => v = .int .i64 (rt p a) ∧ ∃ q, Down q ∧ (∀ x, rt q x = rt p x) ∧ M = [blk g 3 (ints (tab n (nat q))).toArray]) := by
 refine Ao (args := [_, _]) Tryz.func191 rfl Tryz.ntmps191 rfl hO ?_
 refine Zs ?_
 refine Za ?_
 refine Zx <| DC.seq <| DC.block ?_
 refine DC.loop (ι := UfI) (fun j => j.a < n ∧ Down j.p ∧ (∀ x, rt j.p x = rt p x) ∧ rt p j.a = rt p a)
  (fun j => [(0, .slice (some ⟨g, 0, none⟩) n n), (1, .int .i64 j.a)]) (fun j => [blk g 3 (ints (tab n (nat j.p))).toArray]) (fun j => j.a) ⟨a, p⟩ ⟨ha, hp, fun _ => rfl, rfl⟩ ⟨rfl, rfl, trivial⟩ (.cons 0 rfl .nil) ?_
 rintro ⟨b, q⟩ ⟨hb, hq, hqr, hba⟩
 dsimp only at hb hq hqr hba ⊢
 have hqb := hq b
 refine DC.seq <| Zs ?_
 iterate 2 refine Zm ?_
 refine Zi Tryz.underlying261 AQ ?_
 refine Zu (Ai rfl rfl AJ (Bi (Bt hb))) ?_
 refine Zm ?_
 refine Zo (BK rfl rfl rfl) ?_
 refine Zx ?_
 refine Zd (fun c1 => ?_) fun c1 => ?_
 ·have hne : q b ≠ b := fun e => by simp [nat, e] at c1
  have hqq := hq (q b)
  refine DC.skip <| Fin.then <| DC.block <| Zs ?_
  iterate 5 refine Zm ?_
  refine Zi Tryz.underlying261 AQ ?_
  refine Zu (Ai rfl rfl AJ (Bi (Bt hb))) ?_
  refine Zo (Aj (ad' := ⟨g, q b, none⟩) rfl rfl rfl Tryz.underlying261 AQ (by simp [nat]) (by simp [nat]; omega) (by rw [AC]; rfl)) ?_
  refine Zu (Ai rfl rfl AJ (Bi (Bt (i := q b) (by omega)))) ?_
  refine Zi Tryz.underlying261 AQ ?_
  refine Zy (AE rfl rfl rfl AQ rfl (by simp; omega) BR) ?_
  refine Seq.nil ?_
  refine Fin.weak (E' := [(0, .slice (some ⟨g, 0, none⟩) n n), (1, .int .i64 b)]) (L' := [blk g 3 (ints (tab n (nat (updN q b (q (q b)))))).toArray]) ⟨rfl, rfl, trivial⟩ (.cons' 0 rfl (by rw [← G2]; rfl) .nil) ?_
  have hq2 := LA hq (a := b) (x := q (q b)) (by omega)
  have hr2 := QB hq b
  have hb2 : updN q b (q (q b)) b = q (q b) := by simp [updN]
  generalize updN q b (q (q b)) = q' at hq2 hr2 hb2 ⊢
  refine Fin.then <| DC.region ?_
  iterate 2 refine Zm ?_
  refine Zi Tryz.underlying261 AQ ?_
  refine Zu (Ai rfl rfl AJ (Bi (Bt hb))) ?_
  refine Za ?_
  refine Seq.nil <| Fin.inBlock ?_
  refine Ag ⟨q' b, q'⟩ (by dsimp only; omega) ⟨by dsimp only; omega, hq2, fun x => (hr2 x).trans (hqr x), ?_⟩ ⟨rfl, rfl, trivial⟩ (.cons 0 rfl .nil)
  dsimp only
  rw [← hqr, ← hr2, FA hq2, hr2, hqr, hba]
 refine DC.exit <| Ad <| Ad <| Ah <| Fin.then <| Zs ?_
 refine Zm ?_
 refine Za ?_
 refine Zx <| DC.ret ?_
 refine Zh ?_
 refine ⟨?_, q, hq, hqr, rfl⟩
 have h9 := Decidable.not_not.1 (of_decide_eq_false c1)
 have : q b = b := Int.ofNat.inj h9
 rw [← hba, ← hqr, FB this]
theorem K9 {A : Option Addr} {n cap : Nat} {a : Int} {w : World} : Calls Tryz.prog 200 #[.slice A n cap, .int .i64 a] w (Ret w [] fun v L => L = [] ∧ v = .bool (decide (0 ≤ a ∧ a < n))) := by
 refine Ao (args := [_, _]) (L := []) Tryz.func200 rfl Tryz.ntmps200 rfl (Own.start _ _) ?_
 refine Zs ?_
 refine Za ?_
 refine Zx <| Zs ?_
 refine Zm ?_
 refine Zo (Cc rfl rfl rfl) ?_
 refine Zm ?_
 refine Seq.split 7 rfl (fun k1_2 => ?_) (fun k1_2 => ?_)
 ·refine Zm ?_
  refine Zm ?_
  refine Zn Tryz.underlying261 ?_
  refine Zc ?_
  refine Zt ?_
  refine Za ?_
  refine Zx <| DC.ret ?_
  refine Zh ?_
  refine ⟨rfl, ?_⟩
  simp_all
  try omega
 iterate 4 refine Zk ?_
 refine Zg ?_
 refine Za ?_
 refine Zx <| DC.ret ?_
 refine Zh ?_
 refine ⟨rfl, ?_⟩
 simp_all
 try omega
/-- The sets: a struct in block gp, parents in g1, sizes in g2. -/
def setsL (gp g1 g2 n : Nat) (p : Nat → Nat) (sz : List Int) (c : Int) : List Chunk :=
 [blk gp 263 #[.slice (some ⟨g1, 0, none⟩) n n, .slice (some ⟨g2, 0, none⟩) n n, .int .i64 c], blk g1 3 (ints (tab n (nat p))).toArray, blk g2 3 (ints sz).toArray]
theorem I8 {gp g1 g2 n : Nat} {p : Nat → Nat} {sz : List Int} {c a : Int} {w0 w : World} {K : List Nat} (hO : Own w0 K w (setsL gp g1 g2 n p sz c)) :
  Calls Tryz.prog 190 #[.pointer (some ⟨gp, 0, none⟩), .int .i64 a] w (Ret w [] fun v L => L = [] ∧ v = .bool (decide (0 ≤ a ∧ a < n))) := by
 have hb := hO.holds _ (TI ..)
 refine Ao (args := [_, _]) (L := []) Tryz.func190 rfl Tryz.ntmps190 rfl (Own.start _ _) ?_
 refine Zs ?_
 refine Za ?_
 refine Zx <| Zs ?_
 refine Zm ?_
 refine Zo (N0 rfl rfl rfl Tryz.underlying248) ?_
 refine Zm ?_
 refine Seq.split 7 rfl (fun k1_2 => ?_) (fun k1_2 => ?_)
 ·refine Zm ?_
  refine Zo (AH rfl rfl) ?_
  refine Zf Ea ?_
  refine Zu (Ai rfl rfl Il (Bc hb rfl)) ?_
  refine Zm ?_
  refine Seq.rel0 rfl rfl (Ar SK rfl rfl rfl (fun w hw => K9)) ?_
  rintro _ rfl
  refine Zt ?_
  refine Za ?_
  refine Zx <| DC.ret ?_
  refine Zh ?_
  exact ⟨rfl, rfl⟩
 simp at k1_2 --closed
theorem MS {gp g1 g2 n u v : Nat} {p : Nat → Nat} {sz : List Int} {c : Int} {es : List Pr} {w : World} (hO : Own w (idsOf (setsL gp g1 g2 n p sz c)) w (setsL gp g1 g2 n p sz c)) (hp : Down p) (hu : u < n) (hv : v < n) (hn : n ≤ 1048576) (hs : sz.length = n)
  (hP : Parts es (rt p)) :
  Calls Tryz.prog 176 #[.pointer (some ⟨gp, 0, none⟩), .int .i64 u, .int .i64 v] w (Ret w (idsOf (setsL gp g1 g2 n p sz c)) fun r M =>
   ∃ q sz' c', Down q ∧ sz'.length = n ∧ Parts (es ++ [((u : Int), (v : Int))]) (rt q) ∧ M = setsL gp g1 g2 n q sz' c') := by
 refine Ao (args := [_, _, _]) Tryz.func176 rfl Tryz.ntmps176 rfl hO ?_
 unfold setsL
 refine Zs ?_
 refine Za ?_
 refine Zx <| DC.seq <| Zs ?_
 iterate 2 refine Zm ?_
 refine Seq.rel0 rfl rfl (Ar Rf rfl rfl rfl (fun w hw => I8 hw)) ?_
 rintro _ rfl
 refine Zo (Bd rfl rfl) ?_
 refine Zm ?_
 refine Seq.split 13 rfl (fun k1_4 => ?_) (fun k1_4 => ?_)
 ·refine Zk ?_
  iterate 3 refine Zk ?_
  refine Zt ?_
  refine Zx ?_
  refine AI rfl ?_
  refine Zs ?_
  refine Za ?_
  refine Zx <| DC.ret <| Aa ?_
  refine Zh ?_
  simp at k1_4; omega
 iterate 2 refine Zm ?_
 refine Seq.rel0 rfl rfl (Ar Rf rfl rfl rfl (fun w hw => I8 hw)) ?_
 rintro _ rfl
 refine Zo (Bd rfl rfl) ?_
 refine Zg ?_
 refine Zx ?_
 refine Zd (fun c1 => ?_) fun c1 => ?_
 ·refine Zs ?_
  refine Za ?_
  refine Zx <| DC.ret <| Aa ?_
  refine Zh ?_
  simp at c1; omega
 refine DC.skip <| Fin.then <| DC.seq ?_
 refine AF (cl := [.q, .q, .q, .q, .q, .g, .q, .q, .q, .q, .q, .g, .q, .q]) (A := [0, 1, 3, 7, 0, 31, 0, 64, 192, 448, 0, 2047, 4095, 8191]) (order := [0, 1, 2, 3, 4, 5, 6, 7, 8, 9, 10, 11, 12, 13]) ([blk gp 263 #[.slice (some ⟨g1, 0, none⟩) n n, .slice (some ⟨g2, 0, none⟩) n n, .int .i64 c]]) mixed (by kernel_rfl) (fun w hw => hw.pick (.cons 0 rfl .nil)) ?_
 refine Ym ?_
 refine Yo rfl (AH rfl rfl) ?_
 refine Yf Ea ?_
 refine Flow.old rfl rfl rfl (Ai rfl rfl Il (BJ rfl)) ?_
 refine Ym ?_
 refine Flow.gen0 rfl rfl rfl rfl (Bh PT rfl rfl rfl (Lc := [blk g1 3 (ints (tab n (nat p))).toArray]) (F := [blk gp 263 #[.slice (some ⟨g1, 0, none⟩) n n, .slice (some ⟨g2, 0, none⟩) n n, .int .i64 c], blk g2 3 (ints sz).toArray]) (.swap _ _ _) (fun k hk => by simpa [blk] using hk)
  (fun w hw => Ff (hw.pick (.cons 1 rfl .nil)).self hp hu hn)) (fun v L' hC w hw => by obtain ⟨_, ⟨_, q, _, _, rfl⟩, rfl⟩ := hC; exact hw.pick (.cons 1 rfl .nil)) ?_
 rintro _ _ ⟨_, ⟨rfl, q, hq, hqr, rfl⟩, rfl⟩
 simp only [zs]
 refine Ym ?_
 refine Yo rfl (AH rfl rfl) ?_
 refine Yf Ea ?_
 refine Flow.old rfl rfl rfl (Ai rfl rfl Il (BJ rfl)) ?_
 refine Ym ?_
 refine Flow.gen0 rfl rfl rfl rfl (Bh PT rfl rfl rfl (Lc := [blk g1 3 (ints (tab n (nat q))).toArray]) (F := [blk gp 263 #[.slice (some ⟨g1, 0, none⟩) n n, .slice (some ⟨g2, 0, none⟩) n n, .int .i64 c], blk g2 3 (ints sz).toArray]) (.refl _) (fun k hk => by simpa [blk] using hk)
  (fun w hw => Ff (hw.pick (.cons 0 rfl .nil)).self hq hv hn)) (fun v L' hC w hw => by obtain ⟨_, ⟨_, q, _, _, rfl⟩, rfl⟩ := hC; exact hw.pick (.cons 1 rfl .nil)) ?_
 rintro _ _ ⟨_, ⟨rfl, q2, hq2, hqr2, rfl⟩, rfl⟩
 simp only [zs]
 refine Yo rfl (AR rfl rfl) ?_
 refine Yo rfl (AR rfl rfl) ?_
 refine Flow.end rfl ?_
 simp only [zq, zr]
 have hux := KG p u
 have hvx := KG q v
 have h2u : rt q2 u = rt p u := by rw [hqr2, hqr]
 have h2v : rt q2 v = rt q v := hqr2 v
 have hxx : q2 (rt p u) = rt p u := by rw [← h2u]; exact Mc hq2 u
 have hyy : q2 (rt q v) = rt q v := by rw [← h2v]; exact Mc hq2 v
 have hP2 : Parts es (rt q2) := GG (fun z => by rw [hqr2, hqr]) hP
 generalize rt p u = x at hux h2u hxx ⊢
 generalize rt q v = y at hvx h2v hyy ⊢
 refine Fin.then <| DC.seq <| Zs ?_
 iterate 2 refine Zm ?_
 refine Zo (AN rfl rfl rfl) ?_
 refine Zx ?_
 refine Zd (fun c4 => ?_) fun c4 => ?_
 ·refine Zs ?_
  refine Za ?_
  refine Zx <| DC.ret <| Aa ?_
  refine Fin.weak (E' := [(6, _)]) ⟨rfl, trivial⟩ (.cons 1 rfl (.cons 0 rfl (.cons 0 rfl .nil))) ?_
  refine Zh ?_
  have hxy : x = y := by simp at c4; omega
  exact ⟨q2, sz, c, hq2, hs, Mg hP2 (by rw [h2u, h2v, hxy]), rfl⟩
 refine DC.skip <| Fin.then <| Zs ?_
 iterate 2 refine Zm ?_
 refine Zo (Na rfl rfl rfl) ?_
 iterate 2 refine Zm ?_
 refine Zo (Nb rfl rfl rfl) ?_
 iterate 2 refine Za ?_
 refine Zx <| DC.seq ?_
 have hxy : x ≠ y := by simp at c4; omega
 obtain ⟨lo, hlo⟩ : ∃ lo, lo = min x y := ⟨_, rfl⟩
 obtain ⟨hi, hhi⟩ : ∃ hi, hi = max x y := ⟨_, rfl⟩
 have e7 : min (x : Int) (y : Int) = (lo : Int) := by omega
 have e8 : max (x : Int) (y : Int) = (hi : Int) := by omega
 rw [e7, e8]
 have hlt : lo < hi := by omega
 have hhn : hi < n := by omega
 have hlx : q2 lo = lo := by rcases (show lo = x ∨ lo = y by omega) with h | h <;> rw [h] <;> assumption
 have hhx : q2 hi = hi := by rcases (show hi = x ∨ hi = y by omega) with h | h <;> rw [h] <;> assumption
 have hj := Qz hq2 hlx hhx hlt
 have hsel : (rt q2 u = lo ∧ rt q2 v = hi) ∨ (rt q2 u = hi ∧ rt q2 v = lo) := by rw [h2u, h2v]; omega
 obtain ⟨s1, hs1⟩ : ∃ s, sz[lo]? = some s := ⟨_, Tz (by omega)⟩
 obtain ⟨s2, hs2⟩ : ∃ s, sz[hi]? = some s := ⟨_, Tz (by omega)⟩
 refine DC.region ?_
 refine Zm ?_
 refine Zo (AH rfl rfl) ?_
 refine Zf Ea ?_
 refine Zl Il ?_
 iterate 2 refine Zm ?_
 refine Zi Tryz.underlying261 AQ ?_
 refine Zy (AE (cs' := (ints (tab n (nat (updN q2 hi lo)))).toArray) rfl rfl rfl AQ rfl (by simp; omega) (by rw [← G2]; exact BR)) ?_
 refine Zx <| DC.seq ?_
 refine AF (cl := [.q, .q, .q, .q, .q, .q, .v, .q, .q, .q, .q, .q, .q, .v, .q, .q, .g]) (A := [0, 1, 3, 7, 0, 31, 63, 0, 128, 384, 896, 0, 3968, 8064, 16383, 32767, 65535]) (order := [0, 1, 2, 3, 4, 5, 6, 7, 8, 9, 10, 11, 12, 13, 14, 15, 16]) ([blk gp 263 #[.slice (some ⟨g1, 0, none⟩) n n, .slice (some ⟨g2, 0, none⟩) n n, .int .i64 c]]) mixed (by kernel_rfl) (fun w hw => hw.pick (.cons 1 rfl .nil)) ?_
 refine Ym ?_
 refine Yo rfl (AH rfl rfl) ?_
 refine Yf JZ ?_
 refine Flow.old rfl rfl rfl (Ai rfl rfl BA (BJ rfl)) ?_
 refine Ym ?_
 refine Yo rfl (Aj rfl rfl rfl TT AQ (by omega) (by omega) (by first | exact AC _ _ | exact Bj _ _ _ | rfl)) ?_
 refine Am rfl rfl rfl rfl (Ai rfl rfl AJ (Bi (BQ hs1))) ?_
 refine Ym ?_
 refine Yo rfl (AH rfl rfl) ?_
 refine Yf JZ ?_
 refine Flow.old rfl rfl rfl (Ai rfl rfl BA (BJ rfl)) ?_
 refine Ym ?_
 refine Yo rfl (Aj rfl rfl rfl TT AQ (by omega) (by omega) (by first | exact AC _ _ | exact Bj _ _ _ | rfl)) ?_
 refine Am rfl rfl rfl rfl (Ai rfl rfl AJ (Bi (BQ hs2))) ?_
 refine Yo rfl (RC rfl rfl rfl) ?_
 refine Yo rfl (Aj rfl rfl rfl TT AQ (by omega) (by omega) (by first | exact AC _ _ | exact Bj _ _ _ | rfl)) ?_
 refine AS rfl rfl rfl rfl (AE (cs' := (ints (sz.set lo (IntKind.i64.wrap (s1 + s2)))).toArray) rfl rfl rfl AQ rfl (by simp; omega) EA) (fun w hw => hw.pick (.cons 1 rfl .nil)) ?_
 refine Flow.end rfl ?_
 simp only [zq, zr]
 refine Fin.then <| Zs ?_
 refine Zm ?_
 refine Zo (AH rfl rfl) ?_
 refine Zf Nx ?_
 refine Zl AJ ?_
 refine Zo (RB rfl rfl rfl) ?_
 refine Zo (AH rfl rfl) ?_
 refine Zf Nx ?_
 refine Zy (AE (cs' := #[_, _, _]) rfl rfl rfl AQ rfl (TB rfl) rfl) ?_
 refine Zx <| Zs ?_
 refine Za ?_
 refine Zx <| DC.ret ?_
 refine Fin.weak (E' := [(6, _)]) ⟨rfl, trivial⟩ (.cons 1 rfl (.cons 0 rfl (.cons 0 rfl .nil))) ?_
 refine Zh ?_
 exact ⟨updN q2 hi lo, _, _, LA hq2 (by omega), by simp [hs], Mh hP2 hj hsel, rfl⟩
def oneA (i : Nat) : Nat → Int := fun x => if x < i then 1 else 0
def idA (i : Nat) : Nat → Int := fun x => if x < i then (x : Int) else 0
theorem Pz (i : Nat) (x : Nat) : upd (idA i) i (i : Int) x = idA (i + 1) x := by unfold upd idA; split <;> split <;> (try split) <;> omega
theorem N8 (i : Nat) (x : Nat) : upd (oneA i) i 1 x = oneA (i + 1) x := by unfold upd oneA; split <;> split <;> (try split) <;> omega
theorem Qm {n : Nat} (hn : n ≤ 1048576) {w : World} : Calls Tryz.prog 175 #[.int .i64 n] w (Ret w [] fun r M =>
  ∃ gp g1 g2 sz, r = .tuple #[.pointer (some ⟨gp, 0, none⟩), .int .i64 0] ∧ sz.length = n ∧ M = setsL gp g1 g2 n (fun a => a) sz n) := by
 refine Ao (args := [_]) (L := []) Tryz.func175 rfl Tryz.ntmps175 rfl (Own.start _ _) ?_
 refine Zs ?_
 iterate 2 refine Za ?_
 refine Zx <| DC.seq <| Zs ?_
 refine Zm ?_
 refine Zc ?_
 refine Zm ?_
 refine Seq.split 8 rfl (fun k1_2 => ?_) (fun k1_2 => ?_)
 ·refine Zk ?_
  refine Zk ?_
  refine Zt ?_
  refine Zx ?_
  refine AI rfl ?_
  refine Zs ?_
  iterate 2 refine Za ?_
  refine Zx <| DC.ret <| Aa ?_
  refine AL (.inl rfl) rfl rfl rfl ?_
  simp at k1_2; omega
 refine Zm ?_
 refine Zo (Bs rfl rfl rfl) ?_
 refine Zg ?_
 refine Zx ?_
 refine Zd (fun c1 => ?_) fun c1 => ?_
 ·refine Zs ?_
  iterate 2 refine Za ?_
  refine Zx <| DC.ret <| Aa ?_
  refine AL (.inl rfl) rfl rfl rfl ?_
  simp at c1; omega
 refine DC.skip <| Fin.then <| DC.seq ?_
 refine AF (cl := [.q, .n, .q, .n, .q, .q, .n, .q]) (A := [0, 1, 0, 4, 0, 31, 63, 127]) (order := [0, 2, 4, 1, 3, 5, 6, 7]) [] mixed (by kernel_rfl) (fun w hw => hw.pick .nil) ?_
 iterate 3 refine Ym ?_
 refine BD rfl rfl rfl rfl (Ca (k := n) rfl rfl rfl Tryz.underlying261 AQ DE B0 rfl (by omega) (by omega) (Ch n)) fun g13 => ?_
 refine BD rfl rfl rfl rfl (Ca (k := n) rfl rfl rfl TT AQ DE B0 rfl (by omega) (by omega) (Ch n)) fun g15 => ?_
 refine Yo rfl (AA (cs := #[_, _, _]) rfl rfl Tq rfl rfl) ?_
 refine BD rfl rfl rfl rfl (Ba rfl rfl rfl) fun g18 => ?_
 refine Yo rfl (AR rfl rfl) ?_
 refine Flow.end rfl ?_
 simp only [zq, zr]
 refine Fin.then <| DC.seq <| Zs ?_
 iterate 2 refine Zm ?_
 refine Zx <| DC.block ?_
 refine DC.loop (ι := Nat) (fun i => i ≤ n)
  (fun i => [(4, .pointer (some ⟨g18, 0, none⟩)), (19, .int .i64 n), (20, .int .i64 i)])
  (fun i => [blk g18 263 #[.slice (some ⟨g13, 0, none⟩) n n, .slice (some ⟨g15, 0, none⟩) n n, .int .i64 n], blk g15 3 (ints (tab n (oneA i))).toArray, blk g13 3 (ints (tab n (idA i))).toArray]) (fun i => n - i) 0 (Nat.zero_le _) ⟨rfl, rfl, rfl, trivial⟩
  (.cons 0 rfl (.cons' 0 rfl (Cz fun x _ => by simp [oneA]) (.cons' 0 rfl (Cz fun x _ => by simp [idA]) .nil))) ?_
 intro i hi
 refine Zs ?_
 refine Zc ?_
 refine Zx <| DC.seq ?_
 refine Zd (fun c5 => ?_) fun c5 => ?_
 ·have hlt : i < n := by simpa using c5
  refine DC.skip <| Fin.then <| DC.seq <| DC.block <| Zs ?_
  refine Zm ?_
  refine Za ?_
  refine Zx ?_
  refine AF (cl := [.q, .q, .q, .q, .q, .q, .q, .q, .q, .q, .q, .q, .g, .q, .g]) (A := [0, 1, 3, 7, 0, 0, 32, 96, 224, 0, 0, 1535, 3583, 8191, 16383]) (order := [0, 1, 2, 3, 4, 5, 6, 7, 8, 9, 10, 11, 12, 13, 14]) ([blk g18 263 #[.slice (some ⟨g13, 0, none⟩) n n, .slice (some ⟨g15, 0, none⟩) n n, .int .i64 n]]) mixed (by kernel_rfl) (fun w hw => hw.pick (.cons 0 rfl .nil)) ?_
  refine Ym ?_
  refine Yo rfl (AH rfl rfl) ?_
  refine Yf Ea ?_
  refine Flow.old rfl rfl rfl (Ai rfl rfl Il (BJ rfl)) ?_
  iterate 2 refine Ym ?_
  refine Yo rfl (AH rfl rfl) ?_
  refine Yf JZ ?_
  refine Flow.old rfl rfl rfl (Ai rfl rfl BA (BJ rfl)) ?_
  iterate 2 refine Ym ?_
  refine Yo rfl (Aj rfl rfl rfl Tryz.underlying261 AQ (by omega) (by omega) (by first | exact AC _ _ | exact Bj _ _ _ | rfl)) ?_
  refine AS rfl rfl rfl rfl (AE (cs' := (ints (tab n (idA (i + 1)))).toArray) rfl rfl rfl AQ rfl (by simp; omega) (by rw [BR]; exact congrArg (fun l => (ints l).toArray) (CP fun x _ => Pz i x))) (fun w hw => hw.pick (.cons 0 rfl .nil)) ?_
  refine Yo rfl (Aj rfl rfl rfl TT AQ (by omega) (by omega) (by first | exact AC _ _ | exact Bj _ _ _ | rfl)) ?_
  refine AS rfl rfl rfl rfl (AE (cs' := (ints (tab n (oneA (i + 1)))).toArray) rfl rfl rfl AQ rfl (by simp; omega) (by rw [BR]; exact congrArg (fun l => (ints l).toArray) (CP fun x _ => N8 i x))) (fun w hw => hw.pick (.cons 0 rfl .nil)) ?_
  refine Flow.end rfl ?_
  simp only [zq, zr]
  refine Fin.inBlock <| Fin.then <| DC.region ?_
  refine Zp ?_
  refine Zm ?_
  refine Seq.nil ?_
  refine Ag (i + 1) (by omega) (by omega) ⟨rfl, rfl, rfl, trivial⟩ (Pick.all _)
 refine DC.exit <| Ad <| Ad <| Ah <| Fin.then <| Zs ?_
 refine Zm ?_
 iterate 2 refine Za ?_
 refine Zx <| DC.ret ?_
 have hin : i = n := by simp at c5; omega
 subst hin
 refine Fin.weak (E' := [(2, _), (3, _)]) ⟨rfl, rfl, trivial⟩ (.cons 0 rfl (.cons 1 rfl (.cons 0 rfl .nil))) ?_
 refine AL (.inl rfl) rfl rfl rfl ?_
 refine ⟨g18, g13, g15, tab i (oneA i), rfl, by simp, ?_⟩
 unfold setsL
 rw [Cz (f := idA i) (g := nat fun a => a) fun x hx => by unfold idA nat; rw [if_pos hx]]
/-- Numbers of the sets. -/
structure NumI where
 a : Nat
 c : Nat
 p : Nat → Nat
 f : Nat → Int
def Labels (r : Nat → Nat) (a c : Nat) (f : Nat → Int) : Prop :=
 (∀ x, x < a → 0 ≤ f x ∧ f x < c) ∧ (∀ x y, x < a → y < a → (f x = f y ↔ r x = r y)) ∧ (c : Int) = ((List.range a).countP fun x => r x = x) ∧ c ≤ a
theorem IB {gp g1 g2 n : Nat} {p : Nat → Nat} {sz : List Int} {c : Int} {w : World} (hO : Own w (idsOf (setsL gp g1 g2 n p sz c)) w (setsL gp g1 g2 n p sz c)) (hp : Down p) (hn : n ≤ 1048576) :
  Calls Tryz.prog 177 #[.pointer (some ⟨gp, 0, none⟩)] w (Ret w (idsOf (setsL gp g1 g2 n p sz c)) fun r M =>
   ∃ g k f, r = .tuple #[.slice (some ⟨g, 0, none⟩) n n, .int .i64 (k : Nat)] ∧ Labels (rt p) n k f ∧ M = [blk g 3 (ints (tab n f)).toArray]) := by
 refine Ao (args := [_]) Tryz.func177 rfl Tryz.ntmps177 rfl hO ?_
 unfold setsL
 refine Zs ?_
 iterate 2 refine Za ?_
 refine Zx <| Zs ?_
 refine Zm ?_
 refine Zo (AH rfl rfl) ?_
 refine Zf Ea ?_
 refine Zl Il ?_
 refine Zn Tryz.underlying261 ?_
 refine Zw (Ca (k := n) rfl rfl rfl TT AQ DE B0 rfl (by omega) (by omega) (Ch n)) fun g13 => ?_
 refine Za ?_
 refine Zx <| Zs ?_
 refine Za ?_
 refine Zx <| DC.seq <| Zs ?_
 refine Zm ?_
 refine Zn TT ?_
 refine Zm ?_
 refine Zx <| DC.block ?_
 refine DC.loop (ι := NumI) (fun j => j.a ≤ n ∧ Down j.p ∧ (∀ x, rt j.p x = rt p x) ∧ Labels (rt p) j.a j.c j.f)
  (fun j => [(0, .pointer (some ⟨gp, 0, none⟩)), (4, .slice (some ⟨g13, 0, none⟩) n n), (5, .int .i64 j.c), (14, .slice (some ⟨g13, 0, none⟩) n n), (15, .int .i64 n), (16, .int .i64 j.a)])
  (fun j => [blk g13 3 (ints (tab n j.f)).toArray, blk gp 263 #[.slice (some ⟨g1, 0, none⟩) n n, .slice (some ⟨g2, 0, none⟩) n n, .int .i64 c], blk g1 3 (ints (tab n (nat j.p))).toArray]) (fun j => n - j.a) ⟨0, 0, p, fun _ => 0⟩
  ⟨Nat.zero_le _, hp, fun _ => rfl, by simp, by simp, by simp, Nat.le_refl _⟩ ⟨rfl, rfl, rfl, rfl, rfl, rfl, trivial⟩ (.cons 0 rfl (.cons 0 rfl (.cons 0 rfl .nil))) ?_
 rintro ⟨a, k, q, f⟩ ⟨ha, hq, hqr, hL1, hL2, hL3, hL4⟩
 dsimp only at ha hq hqr hL1 hL2 hL3 hL4 ⊢
 refine Zs ?_
 refine Zc ?_
 refine Zx <| DC.seq ?_
 refine Zd (fun c4 => ?_) fun c4 => ?_
 ·have hlt : a < n := by simpa using c4
  refine DC.skip <| Fin.then <| DC.seq <| DC.block <| Zs ?_
  refine Zm ?_
  refine Za ?_
  refine Zx <| DC.seq <| Zs ?_
  refine Zm ?_
  refine Zo (AH rfl rfl) ?_
  refine Zf Ea ?_
  refine Zl Il ?_
  refine Zm ?_
  refine Seq.gen rfl rfl (Bh PT rfl rfl rfl (Lc := [blk g1 3 (ints (tab n (nat q))).toArray]) (F := [blk g13 3 (ints (tab n f)).toArray, blk gp 263 #[.slice (some ⟨g1, 0, none⟩) n n, .slice (some ⟨g2, 0, none⟩) n n, .int .i64 c]]) (TR (l₁ := [_, _]) (l₂ := [_])) (fun k hk => by simpa [blk] using hk) (fun w hw => Ff (hw.pick (.cons 2 rfl .nil)).self hq hlt hn)) ?_
  rintro _ _ ⟨_, ⟨rfl, q2, hq2, hqr2, rfl⟩, rfl⟩
  simp only [zs]
  rw [hqr a]
  have hle := KG p a
  have hidem : rt p (rt p a) = rt p a := QA hp a
  obtain ⟨r, hr⟩ : ∃ r, r = rt p a := ⟨_, rfl⟩
  rw [← hr] at hle hidem ⊢
  have hcnt : ∀ (b : Bool), decide (rt p a = a) = b → (List.range (a + 1)).countP (fun x => rt p x = x) = (List.range a).countP (fun x => rt p x = x) + (if b then 1 else 0) := by
   intro b hb
   rw [List.range_succ, List.countP_append]
   subst hb
   simp [List.countP_cons]
  refine Za ?_
  refine Zx <| Zs ?_
  iterate 2 refine Zm ?_
  refine Zc ?_
  refine Zx ?_
  refine Zd (fun c7 => ?_) fun c7 => ?_
  ·have hra : r < a := by simpa using c7
   refine Zs ?_
   iterate 4 refine Zm ?_
   refine Zi TT AQ ?_
   refine Zu (Ai rfl rfl AJ (Bi (Bt (by omega)))) ?_
   refine Zi TT AQ ?_
   refine Zy (AE (cs' := (ints (tab n (upd f a (f r)))).toArray) rfl rfl rfl AQ rfl (by simp; omega) BR) ?_
   refine Zx <| DC.exit <| Ad <| Ah <| Fin.then <| DC.region ?_
   refine Zp ?_
   refine Zm ?_
   refine Seq.nil ?_
   refine Ag (NumI.mk (a + 1) k q2 (upd f a (f r))) (by dsimp only; omega) ⟨by dsimp only; omega, hq2, fun x => by rw [hqr2, hqr], ?_, ?_, ?_, by dsimp only; omega⟩ ⟨rfl, rfl, rfl, rfl, rfl, rfl, trivial⟩ (.cons 1 rfl (.cons 1 rfl (.cons 0 rfl .nil)))
   ·intro x hx
    dsimp only at hx ⊢
    unfold upd
    split
    ·exact hL1 r hra
    exact hL1 x (by omega)
   ·intro x y hx hy
    dsimp only at hx hy ⊢
    unfold upd
    by_cases e1 : x = a
    ·by_cases e2 : y = a
     ·subst e1 e2; simp
     rw [if_pos e1, if_neg e2, hL2 r y hra (by omega), hidem, e1, ← hr]
    by_cases e2 : y = a
    ·rw [if_neg e1, if_pos e2, hL2 x r (by omega) hra, hidem, e2, ← hr]
    rw [if_neg e1, if_neg e2]; exact hL2 x y (by omega) (by omega)
   dsimp only
   rw [hcnt false (by simp; omega)]; simpa using hL3
  have hra : r = a := by simp at c7; omega
  subst hra
  refine DC.skip <| Fin.then <| Zs ?_
  iterate 3 refine Zm ?_
  refine Zi TT AQ ?_
  refine Zy (AE (cs' := (ints (tab n (upd f r (k : Int)))).toArray) rfl rfl rfl AQ rfl (by simp; omega) BR) ?_
  refine Zx <| DC.region ?_
  refine Zm ?_
  refine Zp ?_
  refine Za ?_
  refine Seq.nil <| Fin.inBlock <| Fin.then <| DC.region ?_
  refine Zp ?_
  refine Zm ?_
  refine Seq.nil ?_
  refine Ag (NumI.mk (r + 1) (k + 1) q2 (upd f r (k : Int))) (by dsimp only; omega) ⟨by dsimp only; omega, hq2, fun x => by rw [hqr2, hqr], ?_, ?_, ?_, by dsimp only; omega⟩ ⟨rfl, rfl, rfl, rfl, rfl, rfl, trivial⟩ (.cons 1 rfl (.cons 1 rfl (.cons 0 rfl .nil)))
  ·intro x hx
   dsimp only at hx ⊢
   unfold upd
   split
   ·omega
   have := hL1 x (by omega); omega
  ·intro x y hx hy
   dsimp only at hx hy ⊢
   unfold upd
   by_cases e1 : x = r
   ·by_cases e2 : y = r
    ·subst e1 e2; simp
    rw [if_pos e1, if_neg e2, e1, ← hr]
    have h1 := hL1 y (by omega)
    have h2 := KG p y
    constructor
    ·intro h; omega
    intro h; omega
   by_cases e2 : y = r
   ·rw [if_neg e1, if_pos e2, e2, ← hr]
    have h1 := hL1 x (by omega)
    have h2 := KG p x
    constructor
    ·intro h; omega
    intro h; omega
   rw [if_neg e1, if_neg e2]; exact hL2 x y (by omega) (by omega)
  dsimp only
  rw [hcnt true (by simp; omega)]; simp at hL3 ⊢; omega
 refine DC.exit <| Ad <| Ad <| Ah <| Fin.then <| Zs ?_
 iterate 2 refine Zm ?_
 iterate 2 refine Za ?_
 refine Zx <| DC.ret ?_
 have han : a = n := by simp at c4; omega
 subst han
 refine Fin.weak (E' := [(2, _), (3, _)]) ⟨rfl, rfl, trivial⟩ (.cons 0 rfl .nil) ?_
 refine AL (.inl rfl) rfl rfl rfl ?_
 exact ⟨g13, k, f, rfl, ⟨hL1, hL2, hL3, hL4⟩, rfl⟩
structure OfI where
 i : Nat
 p : Nat → Nat
 sz : List Int
 c : Int
theorem Ql {n : Nat} {es : List Pr} {va : Value} {w : World} (hg : PrV w va es) (hV : Vld n es) :
  Calls Tryz.prog 153 #[.agg #[.int .i64 n, va]] w (Ret w [] fun r M =>
   ∃ g k f q, r = .tuple #[.slice (some ⟨g, 0, none⟩) n n, .int .i64 (k : Nat), .int .i64 0] ∧ Down q ∧ Parts es (rt q) ∧ Labels (rt q) n k f ∧ M = [blk g 3 (ints (tab n f)).toArray]) := by
 have hg0 := hg
 obtain ⟨A, cap, rfl, hr, hlc, hcm, hle⟩ := hg
 have hN1 : n ≤ 1048576 := by have := hV.hi; omega
 refine Ao (args := [_]) (L := []) Tryz.func153 rfl Tryz.ntmps153 rfl (Own.start _ _) ?_
 refine Zs ?_
 refine Zw (Ba rfl rfl rfl) fun g1 => ?_
 iterate 3 refine Za ?_
 refine Zx <| DC.seq <| Zs ?_
 refine Zu (Ay (vs := [_, _]) rfl rfl Bn Bg rfl (Ak rfl)) ?_
 refine Seq.rel0 rfl rfl (Ar MB rfl rfl rfl (fun w' hw => CG (hg0.keep0 hw))) ?_
 rintro _ ⟨b, rfl, hb⟩
 refine Zo (Bd rfl rfl) ?_
 refine Zx ?_
 refine Zd (fun c1 => ?_) fun c1 => ?_
 ·refine Zs ?_
  iterate 3 refine Za ?_
  refine Zx <| DC.ret <| Aa ?_
  refine Bo (.inl rfl) rfl rfl rfl rfl ?_
  exact absurd (hb.2 hV) (by simpa using c1)
 refine DC.skip <| Fin.then <| Zs ?_
 refine Zf BI ?_
 refine Zl AJ ?_
 refine Seq.rel rfl rfl (Ar SS rfl rfl rfl (fun w' hw => Qm hN1)) ?_
 rintro _ _ ⟨gp, ga, gb, sz, rfl, hsz, rfl⟩
 simp only [setsL, List.cons_append, List.nil_append]
 refine Zm ?_
 iterate 2 refine Ze ?_
 iterate 2 refine Za ?_
 refine Zx <| DC.seq <| Zs ?_
 refine Zf Be ?_
 refine Zl Bu ?_
 refine Zn TU ?_
 refine Zm ?_
 refine Zx <| DC.block ?_
 refine DC.loop (ι := OfI) (fun j => j.i ≤ es.length ∧ Down j.p ∧ j.sz.length = n ∧ Parts (es.take j.i) (rt j.p))
  (fun j => [(5, .pointer (some ⟨gp, 0, none⟩)), (21, .slice A es.length cap), (22, .int .i64 es.length), (23, .int .i64 j.i)])
  (fun j => setsL gp ga gb n j.p j.sz j.c) (fun j => es.length - j.i) ⟨0, fun a => a, sz, n⟩ ⟨Nat.zero_le _, fun _ => Nat.le_refl _, hsz, GG (fun x => (FB (p := fun a => a) rfl).symm) NZ⟩ ⟨rfl, rfl, rfl, rfl, trivial⟩ (.cons 0 rfl (.cons 0 rfl (.cons 0 rfl .nil))) ?_
 rintro ⟨i, p, sz', c⟩ ⟨hi, hp, hs, hP⟩
 dsimp only at hi hp hs hP ⊢
 refine Zs ?_
 refine Zc ?_
 refine Zx <| DC.seq ?_
 refine Zd (fun c5 => ?_) fun c5 => ?_
 ·have hlt : i < es.length := by simpa using c5
  obtain ⟨e, he⟩ : ∃ e, es[i]? = some e := ⟨_, Tz hlt⟩
  obtain ⟨ad, rfl, hU, hVe⟩ := hr.pair he
  have ho := hV.ok i e he
  obtain ⟨u, hu⟩ := TJ ho.lo
  obtain ⟨v, hv⟩ := TJ (show 0 ≤ e.2 by have := ho.lo; have := ho.lt; omega)
  obtain rfl : e = ((u : Int), (v : Int)) := Prod.ext hu hv
  clear hu hv
  have huv : u < v := by have := ho.lt; simp at this; exact this
  have hvN : v < n := by have := ho.hi; simp at this; exact this
  replace hU : w.cell? (ad.add (i * 2)) = some (.int .i64 (u : Int)) := hU
  replace hVe : w.cell? (ad.add (i * 2 + 1)) = some (.int .i64 (v : Int)) := hVe
  refine DC.skip <| Fin.then <| DC.seq <| DC.block <| Zs ?_
  refine Zo (AM rfl rfl rfl TU AY (by omega) (by omega) (by first | exact AC _ _ | exact Bj _ _ _ | rfl)) ?_
  refine Zu (Ay (vs := [_, _]) rfl rfl B3 AY rfl (Cv hU hVe (by simp))) ?_
  refine Zw (AD rfl CE rfl) fun g8 => ?_
  refine Zy (At (cs' := #[_, _]) rfl rfl rfl AY rfl (TB rfl) rfl) ?_
  refine Zx <| DC.region ?_
  refine Zm ?_
  refine Zf Bb ?_
  refine Zl AJ ?_
  refine Zf Bk ?_
  refine Zl AJ ?_
  refine Seq.gen rfl rfl (Bh SR rfl rfl rfl (Lc := setsL gp ga gb n p sz' c) (F := [blk g8 43 #[.int .i64 u, .int .i64 v]]) (TR (l₁ := [_]) (l₂ := setsL gp ga gb n p sz' c)) (fun k hk => hk) (fun w' hw => MS (hw.sub (TG ..)).self hp (by omega) hvN hN1 hs hP)) ?_
  rintro _ _ ⟨_, ⟨q, sz2, c2, hq, hs2, hP2, rfl⟩, rfl⟩
  refine Seq.nil <| Fin.inBlock <| Fin.then <| DC.region ?_
  refine Zp ?_
  refine Zm ?_
  refine Seq.nil ?_
  refine Ag (OfI.mk (i + 1) q sz2 c2) (by dsimp only; omega) ⟨by dsimp only; omega, hq, hs2, ?_⟩ ⟨rfl, rfl, rfl, rfl, trivial⟩ (.cons 0 rfl (.cons 0 rfl (.cons 0 rfl .nil)))
  dsimp only
  rw [List.take_add_one, he]
  exact hP2
 refine DC.exit <| Ad <| Ad <| Ah <| Fin.then <| DC.seq ?_
 have hie : i = es.length := by simp at c5; omega
 subst hie
 rw [List.take_length] at hP
 refine DC.region ?_
 refine Zm ?_
 refine Seq.gen rfl rfl (Bh SQ rfl rfl rfl (Lc := setsL gp ga gb n p sz' c) (F := []) (by rw [List.append_nil]) (fun k hk => hk) (fun w' hw => IB hw.self hp hN1)) ?_
 rintro _ _ ⟨_, ⟨g, k, f, rfl, hL, rfl⟩, rfl⟩
 refine Zm ?_
 iterate 2 refine Ze ?_
 iterate 2 refine Za ?_
 refine Zx <| Zs ?_
 iterate 2 refine Zm ?_
 iterate 3 refine Za ?_
 refine Zx <| DC.ret ?_
 refine Bo (.inl rfl) rfl rfl rfl rfl ?_
 exact ⟨g, k, f, p, rfl, hp, hP, hL, rfl⟩
theorem Nv : ∀ (a b : List Pr), frs (a ++ b) = frs a ++ frs b
 | [], b => rfl
 | e :: r, b => by simp [frs, Nv r b]
structure BegI where
 i : Nat
 v : Value
theorem Kh {N : Int} {es : List Pr} {va : Value} {w : World} (hg : PrV w va es) (hl : es.length ≤ 4194304) :
  Calls Tryz.prog 88 #[.agg #[.int .i64 N, va]] w (Ret w [] fun v M => M = [slc v 3 1 (ints (frs es))]) := by
 obtain ⟨A, cap, rfl, hr, hlc, hcm, hle⟩ := hg
 refine Ao (args := [_]) (L := []) Tryz.func88 rfl Tryz.ntmps88 rfl (Own.start _ _) ?_
 refine Zs ?_
 refine Zw (Ba rfl rfl rfl) fun g1 => ?_
 refine Za ?_
 refine Zx <| Zs ?_
 refine Zf Be ?_
 refine Zl Bu ?_
 refine Zn TU ?_
 refine Zo (Cl rfl rfl rfl (by omega)) ?_
 refine Zw (Ni (l := 0) (k := 2 * es.length) rfl rfl rfl TT AQ DE B0 rfl (by omega) (by omega) (by omega) (by omega) (FK _ rfl _)) fun g10 => ?_
 refine Za ?_
 refine Zx <| DC.seq <| Zs ?_
 refine Zf Be ?_
 refine Zl Bu ?_
 refine Zn TU ?_
 refine Zm ?_
 refine Zx <| DC.block ?_
 refine DC.weak (E' := [(3, .slice (some ⟨g10, 0, none⟩) 0 (2 * es.length)), (12, .slice A es.length cap), (13, .int .i64 es.length), (14, .int .i64 0)]) ⟨rfl, rfl, rfl, rfl, trivial⟩ (.cons 0 rfl .nil) ?_
 refine DC.own (fun w hw => BZ (vs := []) (m := 1) (len := 0) (cap := 2 * es.length) rfl (by decide) (by omega) (by omega) (by simp) rfl hw) ?_
 refine DC.loop (ι := BegI) (fun j => j.i ≤ es.length)
  (fun j => [(3, j.v), (12, .slice A es.length cap), (13, .int .i64 es.length), (14, .int .i64 j.i)])
  (fun j => [slc j.v 3 1 (ints (frs (es.take j.i)))]) (fun j => es.length - j.i) ⟨0, _⟩ (Nat.zero_le _) ⟨rfl, rfl, rfl, rfl, trivial⟩ (.cons 0 rfl .nil) ?_
 rintro ⟨i, v⟩ hi
 dsimp only at hi ⊢
 refine Zs ?_
 refine Zc ?_
 refine Zx <| DC.seq ?_
 refine Zd (fun c3 => ?_) fun c3 => ?_
 ·have hlt : i < es.length := by simpa using c3
  obtain ⟨e, he⟩ : ∃ e, es[i]? = some e := ⟨_, Tz hlt⟩
  obtain ⟨ad, rfl, hU, hV⟩ := hr.pair he
  refine DC.skip <| Fin.then <| DC.seq <| DC.block <| Zs ?_
  refine Zo (AM rfl rfl rfl TU AY (by omega) (by omega) (by first | exact AC _ _ | exact Bj _ _ _ | rfl)) ?_
  refine Zu (Ay (vs := [_, _]) rfl rfl B3 AY rfl (Cv hU hV (by simp))) ?_
  refine Zw (AD rfl CE rfl) fun g5 => ?_
  refine Zy (At (cs' := #[_, _]) rfl rfl rfl AY rfl (TB rfl) rfl) ?_
  refine Zx <| DC.region ?_
  refine Zm ?_
  refine Zf Bb ?_
  refine Zl AJ ?_
  refine Zf Bk ?_
  refine Zl AJ ?_
  refine Zw (AP (cs := #[_, _]) rfl rfl TT AQ B0 rfl (by decide) (by decide) rfl rfl) fun g23 => ?_
  refine Seq.gen rfl rfl (AK rfl rfl rfl TT AQ DE B0 rfl (by decide) (by decide) (fun w hw => hw.pick (.cons 2 rfl .nil)) (.inl ⟨_, _, rfl, Ak rfl⟩) rfl (Bm [e.1, e.2] []) (by simp [BH]; omega)) ?_
  rintro v24 _ rfl
  refine Za ?_
  refine Seq.nil <| Fin.inBlock <| Fin.then <| DC.region ?_
  refine Zp ?_
  refine Zm ?_
  refine Seq.nil ?_
  refine Ag ⟨i + 1, v24⟩ (by dsimp only; omega) (by dsimp only; omega) ⟨rfl, rfl, rfl, rfl, trivial⟩ (.cons' 0 rfl (by dsimp only; rw [List.take_add_one, he]; simp [Nv, frs, ints]) .nil)
 refine DC.exit <| Ad <| Ad <| Ah <| Fin.then <| Zs ?_
 refine Zm ?_
 refine Za ?_
 refine Zx <| DC.ret ?_
 refine Zh ?_
 have hin : i = es.length := by simp at c3; omega
 subst hin
 rw [List.take_length]
/-! ### a row of bools -/
def bls (n : Nat) (f : Nat → Bool) : List Value := (List.range n).map fun i => .bool (f i)
@[simp] theorem bls_length (n : Nat) (f : Nat → Bool) : (bls n f).length = n := by simp [bls]
theorem Ei {n i : Nat} (f : Nat → Bool) (h : i < n) : (bls n f).toArray[i]? = some (.bool (f i)) := by simp [bls, h]
def updB (f : Nat → Bool) (a : Nat) (b : Bool) : Nat → Bool := fun i => if i = a then b else f i
theorem Eh {n a : Nat} (f : Nat → Bool) (b : Bool) : (bls n f).toArray.setIfInBounds a (.bool b) = (bls n (updB f a b)).toArray := by
 rw [List.setIfInBounds_toArray]
 congr 1
 apply List.ext_getElem?
 intro q
 rw [List.getElem?_set]
 by_cases hq : a = q
 ·subst hq
  by_cases h : a < n
  ·simp [bls, h, updB]
  simp [bls, h]
 rw [if_neg hq]
 by_cases h : q < n
 ·simp [bls, h, updB, Ne.symm hq]
 simp [bls, h]
theorem DK (n : Nat) : madeCells (Value.bool false).cells (n * 1) = (bls n fun _ => false).toArray := by
 rw [FK _ rfl]
 congr 1
 simp [bls, List.map_const']
structure ChkI where
 v : Nat
 f : Nat → Bool
structure ChkD (N : Int) (es : List Pr) (rs : List (List Int)) (v : Nat) (f : Nat → Bool) : Prop where
 ok : ∀ (x : Nat) l, x < v → rs[x]? = some l → (∀ h, h ∈ l → 0 ≤ h ∧ h < es.length * 2 ∧ fromV es h = x) ∧ l.Nodup ∧ (l.length : Int) = cnt es x
 seen : ∀ h, f h = true ↔ ∃ (x : Nat) (l : List Int), x < v ∧ rs[x]? = some l ∧ (h : Int) ∈ l
structure ChkP (es : List Pr) (rs : List (List Int)) (v : Nat) (l : List Int) (j : ChkI) : Prop where
 le : j.v ≤ l.length
 fr : ∀ h, h ∈ l.take j.v → 0 ≤ h ∧ h < es.length * 2 ∧ fromV es h = v
 nd : (l.take j.v).Nodup
 seen : ∀ h, j.f h = true ↔ (∃ (x : Nat) (l' : List Int), x < v ∧ rs[x]? = some l' ∧ (h : Int) ∈ l') ∨ (h : Int) ∈ l.take j.v
theorem LH {N : Int} {es : List Pr} {rs : List (List Int)} {va v : Value} {w : World} (hg : PrV w va es) (hl : LsV w v rs) :
  Calls Tryz.prog 114 #[.agg #[.int .i64 N, va], v] w (RetP w [] (fun _ M => RotL N es rs ∧ M = []) (fun pv M => ∃ x e, pv = flt x e ∧ (e ≠ 0 ∧ ¬ RotL N es rs))) := by
 have hg0 := hg
 obtain ⟨A, cap, rfl, hr, hlc, hcm, hle⟩ := hg
 obtain ⟨B, capb, rfl, hrb, hlb, hcb, hleb⟩ := hl
 refine Dh (K := []) (args := [_, _]) (L := []) Tryz.func114 rfl Tryz.ntmps114 rfl (Own.start _ _) ?_
 refine Zs ?_
 refine Zw (Ba rfl rfl rfl) fun g2 => ?_
 refine Zx <| Zs ?_
 refine Zu (Ay (vs := [_, _]) rfl rfl Bn Bg rfl (Ak rfl)) ?_
 refine Seq.rel0 rfl rfl (Ar MB rfl rfl rfl (fun w' hw => CG (hg0.keep0 hw))) ?_
 rintro _ ⟨b, rfl, hb⟩
 refine BO rfl rfl Eq rfl rfl rfl (fun w' hw => BN b 0 1 w') ?_ ?_
 ·rintro _ ⟨rfl, hbf⟩
  refine Az <| ?_
  exact Bp ⟨0, 1, rfl, by decide, fun h => by have := hb.2 h.1; rw [hbf] at this; cases this⟩
 rintro _ hbt
 have hV : Vld N es := hb.1 hbt
 refine Zx <| Zs ?_
 refine Zm ?_
 refine Zn TY ?_
 refine Zf BI ?_
 refine Zl AJ ?_
 refine Zo (AN rfl rfl rfl) ?_
 refine BO rfl rfl Eq rfl rfl rfl (fun w' hw => BN _ 0 110 w') ?_ ?_
 ·rintro _ ⟨rfl, hbf⟩
  refine Az <| ?_
  exact Bp ⟨0, 110, rfl, by decide, fun h => by simp at hbf; exact hbf h.2.1⟩
 rintro _ hbN
 have hN : (rs.length : Int) = N := by simpa using hbN
 subst hN
 have hN1 := hV.hi
 have hfew := hV.few
 refine Zx <| Zs ?_
 refine Zu (Ay (vs := [_, _]) rfl rfl Bn Bg rfl (Ak rfl)) ?_
 refine Seq.rel rfl rfl (Ar Rq rfl rfl rfl (fun w' hw => E9 (hg0.keep0 hw))) ?_
 intro v23 L23 hC23
 obtain ⟨_, gd, rfl, rfl⟩ := hC23.resolve_right (fun h => h.1 hV)
 simp only [TC, List.cons_append, List.nil_append]
 refine Zm ?_
 iterate 2 refine Ze ?_
 iterate 2 refine Za ?_
 refine Zx <| Zs ?_
 refine Zu (Ay (vs := [_, _]) rfl rfl Bn Bg rfl (Ak rfl)) ?_
 refine Seq.rel rfl rfl (Ar en88 rfl rfl rfl (fun w' hw => Kh (hg0.keep0 hw) hfew)) ?_
 rintro v27 _ rfl
 simp only [zs]
 refine Za ?_
 refine Zx <| DC.seq ?_
 refine DC.slcs (i := 0) rfl (by rw [BH]; omega) ?_
 rintro A6 c6 rfl hA6
 rw [BH]
 refine DC.region ?_
 refine Zm ?_
 refine Zn TT ?_
 refine Zw (Ca (k := es.length * 2) rfl rfl rfl TZ Ft R2 Rv (by omega) (by omega) (by omega) (DK _)) fun g30 => ?_
 refine Za ?_
 refine Zx <| Zs ?_
 refine Zm ?_
 refine Zn TY ?_
 refine Zm ?_
 refine Zx <| DC.block ?_
 refine DC.loop (ι := ChkI) (fun j => j.v ≤ rs.length ∧ ChkD rs.length es rs j.v j.f)
  (fun j => [(4, .slice (some ⟨gd, 0, none⟩) rs.length rs.length), (6, .slice A6 (es.length * 2) c6), (7, .slice (some ⟨g30, 0, none⟩) (es.length * 2) (es.length * 2)), (31, .slice B rs.length capb), (32, .int .i64 rs.length), (33, .int .i64 j.v)])
  (fun j => [blk g30 4 (bls (es.length * 2) j.f).toArray, slc (.slice A6 (es.length * 2) c6) 3 1 (ints (frs es)), blk gd 3 (ints (tab rs.length (fun v => cnt es v))).toArray]) (fun j => rs.length - j.v) ⟨0, fun _ => false⟩
  ⟨Nat.zero_le _, fun _ _ h => absurd h (TS _), fun h => ⟨fun e => by simp at e, fun ⟨x, l, h, _⟩ => absurd h (TS _)⟩⟩ ⟨rfl, rfl, rfl, rfl, rfl, rfl, trivial⟩ (.cons 0 rfl (.cons 0 rfl (.cons 0 rfl .nil))) ?_
 rintro ⟨v, f⟩ ⟨hv, hd⟩
 dsimp only at hv hd ⊢
 refine Zs ?_
 refine Zc ?_
 refine Zx <| DC.seq ?_
 refine Zd (fun c7 => ?_) fun c7 => ?_
 ·have hvlt : v < rs.length := by simpa using c7
  obtain ⟨l, hl⟩ : ∃ l, rs[v]? = some l := ⟨_, Tz hvlt⟩
  obtain ⟨adb, lv, rfl, hc, Al, capl, rfl, hrl, hl1, hl2, hl3⟩ := hrb v l hl
  refine DC.skip <| Fin.then <| DC.seq <| DC.block <| Zs ?_
  refine Zm ?_
  refine Zi TY BE ?_
  refine Zu (Ai rfl rfl BA (Aw hc)) ?_
  iterate 2 refine Za ?_
  refine Zx <| DC.seq <| Zs ?_
  refine Zm ?_
  refine Zn TT ?_
  refine Zm ?_
  refine Zx <| DC.block ?_
  refine DC.loop (ι := ChkI) (fun j => ChkP es rs v l j)
   (fun j => [(4, .slice (some ⟨gd, 0, none⟩) rs.length rs.length), (6, .slice A6 (es.length * 2) c6), (7, .slice (some ⟨g30, 0, none⟩) (es.length * 2) (es.length * 2)), (8, .int .i64 v), (9, .slice Al l.length capl), (31, .slice (some adb) rs.length capb), (32, .int .i64 rs.length), (33, .int .i64 v), (38, .slice Al l.length capl), (39, .int .i64 l.length), (40, .int .i64 j.v)])
   (fun j => [blk g30 4 (bls (es.length * 2) j.f).toArray, slc (.slice A6 (es.length * 2) c6) 3 1 (ints (frs es)), blk gd 3 (ints (tab rs.length (fun v => cnt es v))).toArray]) (fun j => l.length - j.v) ⟨0, f⟩
   ⟨Nat.zero_le _, by simp, by simp, fun h => by rw [hd.seen h]; simp⟩ ⟨rfl, rfl, rfl, rfl, rfl, rfl, rfl, rfl, rfl, rfl, rfl, trivial⟩ (Pick.all _) ?_
  rintro ⟨k, f2⟩ hP
  have hPle := hP.le
  have hPse := hP.seen
  dsimp only at hPle hPse ⊢
  refine Zs ?_
  refine Zc ?_
  refine Zx <| DC.seq ?_
  refine Zd (fun c10 => ?_) fun c10 => ?_
  ·have hklt : k < l.length := by simpa using c10
   obtain ⟨h, hh⟩ : ∃ h, l[k]? = some h := ⟨_, Tz hklt⟩
   obtain ⟨adl, rfl, hch⟩ := hrl.int hh
   have hmem := TD hh
   refine DC.skip <| Fin.then <| DC.seq <| DC.block <| Zs ?_
   refine Zi TT AQ ?_
   refine Zu (Ai rfl rfl AJ (Aw hch)) ?_
   refine Za ?_
   refine Zx <| Zs ?_
   refine Zm ?_
   refine Zo (Cc rfl rfl rfl) ?_
   refine Zm ?_
   refine Seq.split 46 rfl (fun k12_2 => ?_) (fun k12_2 => ?_)
   ·refine Zm ?_
    refine Zm ?_
    refine Zn TT ?_
    refine Zc ?_
    refine Zt ?_
    refine Zm ?_
    refine Seq.split 52 rfl (fun k12_8 => ?_) (fun k12_8 => ?_)
    ·have hh0 : 0 ≤ h := by simpa using k12_2
     have hh1 : h < es.length * 2 := by simp at k12_8; omega
     obtain ⟨x6, hx6, hfv⟩ := FR es hh0 hh1
     obtain ⟨ad6, rfl⟩ := hA6 (fun e => by rw [← List.length_eq_zero_iff, BH] at e; omega)
     iterate 2 refine Zm ?_
     refine Zi TT AQ ?_
     refine Zu (Ai rfl rfl AJ (BU (i := 1) rfl hx6 (by rw [BH]; omega))) ?_
     refine Zm ?_
     refine Zo (AN rfl rfl rfl) ?_
     refine Zt ?_
     refine Zm ?_
     refine BO rfl rfl Eq rfl rfl rfl (fun w' hw => BN _ v 111 w') ?_ ?_
     ·rintro _ ⟨rfl, hbf⟩
      refine Az <| AB <| Az <| Az <| AB <| Az <| AB <| Az <| Az <| AB <| ?_
      refine Bp ⟨v, 111, rfl, by decide, fun hok => ?_⟩
      have := ((hok.2.2 v l hl).1 h hmem).2.2
      rw [hfv] at this
      simp at hbf
      exact hbf this
     rintro _ hbt1
     have hfr : fromV es h = v := by rw [hfv]; simpa using hbt1
     obtain ⟨hn, rfl⟩ := TJ hh0
     refine Zx <| Zs ?_
     iterate 2 refine Zm ?_
     refine Zi TZ Ft ?_
     refine Zu (Ai rfl rfl II (Bi (Ei f2 (by omega)))) ?_
     refine Zo (Bd rfl rfl) ?_
     refine Zm ?_
     refine BO rfl rfl Eq rfl rfl rfl (fun w' hw => BN _ v 112 w') ?_ ?_
     ·rintro _ ⟨rfl, hbf⟩
      refine Az <| AB <| Az <| Az <| AB <| Az <| AB <| Az <| Az <| AB <| ?_
      refine Bp ⟨v, 112, rfl, by decide, fun hok => ?_⟩
      have hs : f2 hn = true := by simpa using hbf
      rcases (hPse hn).1 hs with ⟨x, l', hx, hl', hm⟩ | hm
      ·have := ((hok.2.2 x l' hl').1 _ hm).2.2
       omega
      obtain ⟨q, hq⟩ := TF.1 hm
      rw [List.getElem?_take] at hq
      split at hq
      ·have := (List.getElem?_inj (by omega) (hok.2.2 v l hl).2.1).1 (hq.trans hh.symm)
       omega
      cases hq
     rintro _ hbt2
     have hns : ¬ (f2 hn = true) := by simpa using hbt2
     refine Zx <| DC.region ?_
     iterate 2 refine Zm ?_
     refine Zi TZ Ft ?_
     refine Zy (AE (cs' := (bls (es.length * 2) (updB f2 hn true)).toArray) rfl rfl rfl Ft rfl (by simp; omega) (Eh f2 true)) ?_
     refine Seq.nil <| Fin.inBlock <| Fin.then <| DC.region ?_
     refine Zp ?_
     refine Zm ?_
     refine Seq.nil ?_
     refine Ag (ChkI.mk (k + 1) (updB f2 hn true)) (by dsimp only; omega) ?_ ⟨rfl, rfl, rfl, rfl, rfl, rfl, rfl, rfl, rfl, rfl, rfl, trivial⟩ (Pick.all _)
     have htk : l.take (k + 1) = l.take k ++ [(hn : Int)] := by rw [List.take_add_one, hh]; rfl
     have hnk : (hn : Int) ∉ l.take k := fun hm => hns ((hPse hn).2 (.inr hm))
     refine ⟨by dsimp only; omega, ?_, ?_, ?_⟩
     ·dsimp only
      intro h' hh'
      rw [htk, List.mem_append] at hh'
      rcases hh' with hh' | hh'
      ·exact hP.fr h' hh'
      simp at hh'; subst hh'; exact ⟨hh0, hh1, hfr⟩
     ·dsimp only
      rw [htk, List.nodup_append]
      refine ⟨hP.nd, by simp, fun a ha b hb e => ?_⟩
      simp at hb; subst hb; subst e; exact hnk ha
     intro h'
     dsimp only
     rw [htk]
     unfold updB
     split
     ·rename_i e; subst e; simp
     rename_i e
     rw [hPse h', List.mem_append]
     have : ¬ ((h' : Int) = (hn : Int)) := by omega
     simp [this]
    iterate 6 refine Zk ?_
    refine Zg ?_
    refine Zm ?_
    refine BO rfl rfl Eq rfl rfl rfl (fun w' hw => BN _ v 111 w') ?_ ?_
    ·rintro _ ⟨rfl, hbf⟩
     refine Az <| AB <| Az <| Az <| AB <| Az <| AB <| Az <| Az <| AB <| ?_
     refine Bp ⟨v, 111, rfl, by decide, fun hok => ?_⟩
     have := ((hok.2.2 v l hl).1 h hmem)
     simp at k12_8 k12_2; omega
    rintro _ h9
    cases h9
   iterate 4 refine Zk ?_
   refine Zg ?_
   refine Zm ?_
   iterate 6 refine Zk ?_
   refine Zg ?_
   refine Zm ?_
   refine BO rfl rfl Eq rfl rfl rfl (fun w' hw => BN _ v 111 w') ?_ ?_
   ·rintro _ ⟨rfl, hbf⟩
    refine Az <| AB <| Az <| Az <| AB <| Az <| AB <| Az <| Az <| AB <| ?_
    refine Bp ⟨v, 111, rfl, by decide, fun hok => ?_⟩
    have := ((hok.2.2 v l hl).1 h hmem)
    simp at k12_2; omega
   rintro _ h9
   cases h9
  refine DC.exit <| Ad <| Ad <| Ah <| Fin.then ?_
  have hkl : k = l.length := by simp at c10; omega
  subst hkl
  have hPfr := hP.fr
  have hPnd := hP.nd
  dsimp only at hPfr hPnd
  rw [List.take_length] at hPfr hPnd hPse
  refine DC.region ?_
  refine Zm ?_
  refine Zn TT ?_
  iterate 2 refine Zm ?_
  refine Zi TT AQ ?_
  refine Zu (Ai rfl rfl AJ (Bi (Bt hvlt))) ?_
  refine Zo (AN rfl rfl rfl) ?_
  refine Zm ?_
  refine BO rfl rfl Eq rfl rfl rfl (fun w' hw => BN _ v 113 w') ?_ ?_
  ·rintro _ ⟨rfl, hbf⟩
   refine AB <| Az <| Az <| AB <| ?_
   refine Bp ⟨v, 113, rfl, by decide, fun hok => ?_⟩
   have := (hok.2.2 v l hl).2.2
   simp at hbf
   exact hbf this
  rintro _ hbt3
  have hcnt : (l.length : Int) = cnt es v := by simpa using hbt3
  refine Seq.nil <| Fin.inBlock <| Fin.then <| DC.region ?_
  refine Zp ?_
  refine Zm ?_
  refine Seq.nil ?_
  refine Ag (ChkI.mk (v + 1) f2) (by dsimp only; omega) ⟨by dsimp only; omega, ?_, ?_⟩ ⟨rfl, rfl, rfl, rfl, rfl, rfl, trivial⟩ (Pick.all _)
  ·intro x l' hx hl'
   dsimp only at hx
   rcases TE.1 hx with hx | rfl
   ·exact hd.ok x l' hx hl'
   rw [hl] at hl'; cases hl'
   exact ⟨hPfr, hPnd, hcnt⟩
  intro h'
  dsimp only
  rw [hPse h']
  constructor
  ·rintro (⟨x, l', hx, h1, h2⟩ | h1)
   ·exact ⟨x, l', by omega, h1, h2⟩
   exact ⟨v, l, by omega, hl, h1⟩
  rintro ⟨x, l', hx, h1, h2⟩
  rcases TE.1 hx with hx | rfl
  ·exact .inl ⟨x, l', hx, h1, h2⟩
  rw [hl] at h1; cases h1; exact .inr h2
 refine DC.exit <| Ad <| Ad <| Ah ?_
 have hvl : v = rs.length := by simp at c7; omega
 subst hvl
 refine Fin.weak (E' := []) trivial .nil ?_
 refine Dv (.inr rfl) (Cb (.inr rfl) rfl ⟨⟨hV, rfl, fun x l hl => hd.ok x l (TA.1 hl).1 hl⟩, rfl⟩)
end Go.Fl

namespace Go.Fl
open Go
section
variable {P : Program} {ops : Array Oper} {w0 w : World} {K : List Nat} {n : Nat} {ds : List Deferred} {E : Env} {L F : List Chunk} {o : Oper} {x y z : Operand} {v u : Value}
theorem L9 {t tb i j l c : Nat} {ad : Addr} {xs : List Int} {q : Int} (hi : L[i]? = some (slc (.slice (some ad) l c) tb 1 (ints xs))) (ho : o.op = .store t x y) (hx : ev n E x = some (.pointer (some (ad.add j))))
  (hy : ev n E y = some (.int .i64 q)) (hs : sizeT P t = some 1) (hj : j < xs.length) : Sto P w0 K n ds E L o (L.set i (slc (.slice (some ad) l c) tb 1 (ints (xs.set j q)))) := by
 intro a w ha hw
 have hw1 := hw.perm (AO hi).symm
 rcases B9 hw1 with ⟨e, _, _⟩ | ⟨g, len, cap, sp, e, h1, h2, h3, h4, hO⟩
 ·cases e
 cases e
 simp at h1
 subst h1
 rw [AC] at hx
 have hb := hO.holds _ (TI ..)
 have hlt : j < (ints xs ++ sp).toArray.size := by simp; omega
 have hcell : w.cell? ⟨g, j, none⟩ = some ((ints xs ++ sp).toArray[j]) := by rw [cell_of_row w g j _ tb (0, 0) hb]; exact Array.getElem?_eq_getElem hlt
 have hfr := frozen_of_row w g j _ tb hb
 have hst : (store (Addr.add ⟨g, j, none⟩ 0) (Value.int .i64 q)).run P w = .ok () (w.setCell ⟨g, j, none⟩ (.int .i64 q)) := by
  rw [Bj, run_store P w _ _ _ rfl]
  simp only [Nat.add_zero, hcell, hfr]; simp
 refine ⟨w.setCell ⟨g, j, none⟩ (.int .i64 q), ?_, ?_⟩
 ·simp [execOp, ho, ha.ev hx, ha.ev hy, Instr.storeAt, Instr.sureAddr, storeVar, Value.cells, BG hs, storeCells, hst]
 have h5 := hO.set j (.int .i64 q)
 rw [M6 hj] at h5
 refine (BZ (m := 1) (vs := ints (xs.set j q)) (by simp) (by decide) h2 h3 (by simp at h4 ⊢; omega) ?_ h5).perm (ED hi)
 simp
theorem Seq.slcs {Q : Exit → Act → World → Prop} {cd : List Oper} {i t : Nat} {xs : List Int} (hi : L[i]? = some (slc v t 1 (ints xs))) (hf : xs.length ≤ 17592186044416)
  (h : ∀ A c, v = .slice A xs.length c → (xs ≠ [] → ∃ ad, A = some ad) → Seq P ops w0 K n ds Q cd E L) : Seq P ops w0 K n ds Q cd E L := by
 intro a w ha hw
 obtain ⟨A, cap, e, hr, _⟩ := Ck hw i hi hf
 refine h A cap e (fun hne => ?_) a w ha hw
 obtain ⟨q, hq⟩ : ∃ q, xs[0]? = some q := ⟨_, Tz (List.length_pos_iff.2 hne)⟩
 obtain ⟨ad, e, _⟩ := hr.int hq
 exact ⟨ad, e⟩
theorem Fin.slcs {Qb : Act → World → Prop} {i t : Nat} {xs : List Int} (hi : L[i]? = some (slc v t 1 (ints xs))) (hf : xs.length ≤ 17592186044416)
  (h : ∀ A c, v = .slice A xs.length c → (xs ≠ [] → ∃ ad, A = some ad) → Fin w0 K n ds Qb E L) : Fin w0 K n ds Qb E L := by
 intro a w ha hw
 obtain ⟨A, cap, e, hr, _⟩ := Ck hw i hi hf
 refine h A cap e (fun hne => ?_) a w ha hw
 obtain ⟨q, hq⟩ : ∃ q, xs[0]? = some q := ⟨_, Tz (List.length_pos_iff.2 hne)⟩
 obtain ⟨ad, e, _⟩ := hr.int hq
 exact ⟨ad, e⟩
end
end Go.Fl

namespace Go.Fl
open Go
theorem CZ : ∀ (k u : Nat), u < 10 ^ (k + 1) → (Lib.decDigits u).length ≤ k + 1
 | 0, u, h => by rw [Lib.decDigits, dif_pos (by simpa using h)]; simp
 | k + 1, u, h => by
  rw [Lib.decDigits]
  split
  ·simp
  have := CZ k (u / 10) (by rw [Nat.div_lt_iff_lt_mul (by decide)]; rw [Nat.pow_succ] at h; exact h)
  simp; omega
theorem Cu {a : Int} (h : -9223372036854775808 ≤ a ∧ a ≤ 9223372036854775807) : (Lib.itoa a).length ≤ 20 := by
 unfold Lib.itoa
 split
 ·have := CZ 18 a.natAbs (by rw [show (10 : Nat) ^ (18 + 1) = 10000000000000000000 by decide]; omega)
  simp; omega
 have := CZ 18 a.toNat (by rw [show (10 : Nat) ^ (18 + 1) = 10000000000000000000 by decide]; omega)
 omega
def lineB (ns : List Int) : List UInt8 := Lib.join (ns.map Lib.itoa) [32] ++ [10]
theorem FM {k : Nat} : ∀ (xs : List (List UInt8)), (∀ x, x ∈ xs → x.length ≤ k) → (Lib.join xs [32]).length ≤ (k + 1) * xs.length
 | [], _ => by simp [Lib.join]
 | [x], h => by simp [Lib.join, List.intercalate]; have := h x (by simp); omega
 | x :: y :: r, h => by
  have h1 := h x (by simp)
  have h2 := FM (y :: r) (fun z hz => h z (TM _ hz))
  have e : Lib.join (x :: y :: r) [32] = x ++ [32] ++ Lib.join (y :: r) [32] := by simp [Lib.join, List.intercalate, List.intersperse]
  rw [e]
  simp only [List.length_append, List.length_cons, List.length_nil] at h2 ⊢
  rw [Nat.mul_add, Nat.mul_add] at *
  omega
def I64 (a : Int) : Prop := -9223372036854775808 ≤ a ∧ a ≤ 9223372036854775807
theorem CS {ns : List Int} (h : ∀ a, a ∈ ns → I64 a) : (lineB ns).length ≤ 21 * ns.length + 1 := by
 have := FM (k := 20) (ns.map Lib.itoa) (by simp; intro a ha; exact Cu (h a ha))
 simp [lineB] at this ⊢; omega
def strs (xs : List (List UInt8)) : List Value := xs.map str
@[simp] theorem strs_length (xs : List (List UInt8)) : (strs xs).length = xs.length := by simp [strs]
theorem OP (a : List (List UInt8)) : ∀ u, u ∈ strs a → u.oneCell' = true := by
 intro u hu; simp [strs] at hu; obtain ⟨x, _, rfl⟩ := hu; rfl
theorem HI (w : World) (k : Nat) (os : Array Obj) : Own w [] (Sort.grow (w.drewN k) os) [] := by
 refine ⟨rfl, rfl, rfl, .inr (by simp [Sort.grow, World.drewN]), by simp [Sort.grow, World.drewN], fun i hi _ => ?_, by simp, by simp, by simp, by simp⟩
 have : (w.drewN k).heap = w.heap := rfl
 simp only [Sort.grow, this]
 rw [Array.getElem?_append_left hi]
end Go.Fl

namespace Go.Fl
open Go Go.Proofs Go.RowKit Go.Lib Go.Sort Go.Shelf
open Classical
theorem FX (x y : Int × Int) : ltOf Tryz.cmpE x y = decide (Lex x y) := by
 unfold ltOf Tryz.cmpE Tryz.orI Lib.compareInt Lex
 by_cases h1 : x.1 < y.1
 ·simp [h1]
 by_cases h2 : y.1 < x.1
 ·have : ¬ x.1 = y.1 := by omega
  simp [h1, h2, this]
 have : x.1 = y.1 := by omega
 by_cases h3 : x.2 < y.2
 ·simp [h1, h2, h3, this]
 by_cases h4 : y.2 < x.2
 ·simp [h1, h2, h3, h4, this]
 simp [h1, h2, h3, h4, this]
theorem P4 : SWO (ltOf Tryz.cmpE) where
 irrefl x := by rw [FX]; simp [Lex]
 trans x y z h1 h2 := by
  rw [FX] at *
  have h1 := of_decide_eq_true h1
  have h2 := of_decide_eq_true h2
  refine decide_eq_true ?_
  unfold Lex at *; omega
 ntrans x y z h1 h2 := by
  rw [FX] at *
  have h1 := of_decide_eq_false h1
  have h2 := of_decide_eq_false h2
  refine decide_eq_false ?_
  unfold Lex at *; omega
theorem MI (x y : Int × Int) (h1 : ltOf Tryz.cmpE x y = false) (h2 : ltOf Tryz.cmpE y x = false) : x = y := by
 rw [FX] at *
 have h1 := of_decide_eq_false h1
 have h2 := of_decide_eq_false h2
 unfold Lex at *
 exact Prod.ext (by omega) (by omega)
theorem Oy (blk off size : Nat) (w : World) : CmpLays Tryz.prog 154 #[] Tryz.encE 2 Tryz.cmpE blk off size w := by
 intro m os dk hdk x y
 generalize sortWorldK Tryz.encE 2 w blk off m dk os = W
 exact @KX ⟨False⟩ id x y W
theorem On (es : List Pr) : flatK Tryz.encE 2 es.toArray = (prs es).toArray := by
 apply ext_get!
 ·simp
 intro t ht
 simp at ht
 rw [get_flatK _ _ _ _ (by simpa using ht)]
 obtain ⟨e, he⟩ : ∃ e, es[t / 2]? = some e := ⟨_, Tz (by omega)⟩
 have h1 := GX he
 have hd : es.toArray[t / 2]! = e := by simp [he]
 rw [hd]
 rcases (show t % 2 = 0 ∨ t % 2 = 1 by omega) with h0 | h0
 ·have : t / 2 * 2 = t := by omega
  rw [h0]
  rw [this] at h1
  simp [Tryz.encE, h1.1]
 have : t / 2 * 2 + 1 = t := by omega
 rw [h0]
 rw [this] at h1
 simp [Tryz.encE, h1.2]
/-- Edges that rise stay as they are. -/
theorem L6 {v : Value} {es : List Pr} {w : World} (hO : Own w (idsOf [slc v 43 2 (prs es)]) w [slc v 43 2 (prs es)]) (hup : es.Pairwise Lex) (hl : es.length ≤ 1000000000) :
  Calls Tryz.prog 74 #[v, .func (.func 154) #[] #[]] w (Ret w (idsOf [slc v 43 2 (prs es)]) fun r M => M = [slc v 43 2 (prs es)]) := by
 rcases B9 hO with ⟨rfl, h, _⟩ | ⟨g, len, cap, sp, rfl, h1, h2, h3, h4, hb⟩
 ·refine (AnyF.slices_SortFunc_none { C1 with } none 0 (.func (.func 154) #[] #[]) w).mono ?_
  rintro e w' ⟨rfl, rfl⟩
  exact ⟨_, _, rfl, rfl, hO⟩
 simp at h1
 obtain rfl : es.length = len := by omega
 have hg : w.heap[g]? = some (.cells (prs es ++ sp).toArray 43 (0, 0)) := hb.holds _ (TI ..)
 have hlt : g < w.heap.size := (TP.1 hg).1
 have hH : HoldsK Tryz.encE 2 w g 0 es.toArray := by
  unfold HoldsK
  rw [On]
  intro j hj
  have hj' : j < (prs es).length := by simpa using hj
  constructor
  ·rw [cell_of_row w g _ _ _ (0, 0) hg, List.getElem?_toArray, Nat.zero_add, TK hj', Tz hj']
   simp [Tz hj']
  simp [World.frozen?, hg]
 have hcon := AnyQ.slices_SortFunc_total C1 2 Tryz.isAgg43 Tryz.sizeOf43 Tryz.encE (fun _ => rfl) (fun x v hv => by simp [Tryz.encE] at hv; rcases hv with rfl | rfl <;> rfl) Tryz.cmpE P4 154 #[] g 0 cap es.toArray w
  (enters_of Tryz.func154 (by kernel_rfl) rfl) (Oy g 0 es.toArray.size w) hH hlt (by simp; omega) MI
 refine hcon.mono ?_
 rintro e w' ⟨rfl, n, os, rfl⟩
 refine ⟨_, [slc (.slice (some ⟨g, 0, none⟩) es.length cap) 43 2 (prs es)], rfl, rfl, ?_⟩
 have hsorted : (es.toArray.toList.mergeSort fun x y => !(ltOf Tryz.cmpE) y x).toArray = es.toArray := by
  congr 1
  refine List.mergeSort_of_pairwise ?_
  refine hup.imp ?_
  intro a b hab
  rw [FX]
  have : decide (Lex b a) = false := decide_eq_false (by unfold Lex at *; omega)
  rw [this]; rfl
 rw [hsorted]
 have hself : sortWorldK Tryz.encE 2 w g 0 n es.toArray os = Sort.grow (w.drewN n) os := by
  unfold sortWorldK
  rw [putRowK_self _ _ _ _ _ _ (holdsK_ahead _ _ _ n _ _ _ hH)]
  rfl
 rw [hself]
 have := Own.frame (Lc := []) (F := [slc (.slice (some ⟨g, 0, none⟩) es.length cap) 43 2 (prs es)]) hO (HI w n os) (fun k hk => by simp at hk)
 simpa using this
end Go.Fl

namespace Go.Proofs
open Go.Shelf
def Tryz.lays170_ren : Go.Shelf.Ren := ⟨fun | 170 => 44 | n => n, fun | 70 => 93 | 3 => 3 | 0 => 0 | 72 => 95 | 37 => 47 | 5 => 5 | n => n, fun | n => n⟩
theorem Kj : Go.Proofs.Lays.n170 Tryz.prog Tryz.lays170_ren := {
 mixed := by kernel_rfl
 f170 := Tryz.func44.trans (congrArg some (by kernel_rfl))
 t0 := Tryz.underlying0
 a0 := Tryz.isAgg0
 z0 := Tryz.sizeOf0
 v0 := Tryz.zeroValue0
 t3 := Tryz.underlying3
 a3 := Tryz.isAgg3
 z3 := Tryz.sizeOf3
 v3 := Tryz.zeroValue3
 t37 := TV
 a37 := Tryz.isAgg47
 z37 := Tryz.sizeOf47
 v37 := Tryz.zeroValue47
 t70 := Tryz.underlying93
 a70 := Tryz.isAgg93
 z70 := Tryz.sizeOf93
 v70 := Tryz.zeroValue93
 t72 := Tryz.underlying95
 a72 := Tryz.isAgg95
 z72 := Tryz.sizeOf95
 v72 := Tryz.zeroValue95 }
open Go.RowKit in
theorem Tryz.Builder_Len (B b : Nat) (bs : List Value) (w : World) (h : Lib.IsBuilder 95 5 B b bs w) :
  Calls Tryz.prog 44 #[.pointer (some ⟨b, 0, none⟩)] w fun e w' => e = .returned (.int .i64 bs.length) ∧ w' = w := Any.Builder_Len Kj B b bs w h
def Tryz.lays169_ren : Go.Shelf.Ren := ⟨fun | 169 => 45 | n => n, fun | 70 => 93 | 9 => 9 | 0 => 0 | 72 => 95 | 37 => 47 | 127 => 152 | 3 => 3 | 5 => 5 | n => n, fun | n => n⟩
theorem Kk : Go.Proofs.Lays.n169 Tryz.prog Tryz.lays169_ren := {
 mixed := by kernel_rfl
 f169 := Tryz.func45.trans (congrArg some (by kernel_rfl))
 t0 := Tryz.underlying0
 a0 := Tryz.isAgg0
 z0 := Tryz.sizeOf0
 v0 := Tryz.zeroValue0
 t3 := Tryz.underlying3
 a3 := Tryz.isAgg3
 z3 := Tryz.sizeOf3
 v3 := Tryz.zeroValue3
 t9 := Tryz.underlying9
 a9 := Tryz.isAgg9
 z9 := Tryz.sizeOf9
 v9 := Tryz.zeroValue9
 t37 := TV
 a37 := Tryz.isAgg47
 z37 := Tryz.sizeOf47
 v37 := Tryz.zeroValue47
 t70 := Tryz.underlying93
 a70 := Tryz.isAgg93
 z70 := Tryz.sizeOf93
 v70 := Tryz.zeroValue93
 t72 := Tryz.underlying95
 a72 := Tryz.isAgg95
 z72 := Tryz.sizeOf95
 v72 := Tryz.zeroValue95
 t127 := Tryz.underlying152
 a127 := Tryz.isAgg152
 z127 := Tryz.sizeOf152
 v127 := Tryz.zeroValue152 }
theorem Em : Builder.Extra Tryz.prog Tryz.lays169_ren := {
 sizeBuilder := by kernel_rfl
 liesBuilder := by kernel_rfl
 t5 := Tryz.underlying5
 a5 := Tryz.isAgg5
 z5 := Tryz.sizeOf5
 v5 := Tryz.zeroValue5
 infoByte := by kernel_rfl
 cellsByte := by kernel_rfl
 sizeByte := by kernel_rfl
 neB5 := by decide }
open Go.RowKit in
theorem Tryz.Builder_String_any (B b : Nat) (l : List UInt8) (w : World) (h : Lib.IsBuilder 95 5 B b (Lib.byteCells l) w) (hBw : B ≤ w.heap.size) :
  Calls Tryz.prog 45 #[.pointer (some ⟨b, 0, none⟩)] w fun e w' => e = .returned (.string ⟨l.toArray⟩) ∧ Below B w w' := Any.Builder_String_any Kk Em B b l w h hBw
def Tryz.lays156_ren : Go.Shelf.Ren := ⟨fun | 156 => 84 | 165 => 111 | 166 => 42 | 169 => 45 | 240 => 82 | 241 => 147 | 276 => 109 | 277 => 172 | n => n, fun | 31 => 150 | 9 => 9 | 3 => 3 | 4 => 4 | 0 => 0 | 20 => 20 | 72 => 95 | 76 => 98 | 70 => 93 | 37 => 47 | 75 => 97 | 127 => 152 | 164 => 181 | 5 => 5 | 80 => 102 | n => n, fun | n => n⟩
theorem El : Go.Proofs.Lays.n156 Tryz.prog Tryz.lays156_ren := {
 mixed := by kernel_rfl
 f156 := Tryz.func84.trans (congrArg some (by kernel_rfl))
 f165 := Tryz.func111.trans (congrArg some (by kernel_rfl))
 f166 := Tryz.func42.trans (congrArg some (by kernel_rfl))
 f169 := Tryz.func45.trans (congrArg some (by kernel_rfl))
 f240 := Tryz.func82.trans (congrArg some (by kernel_rfl))
 f241 := Tryz.func147.trans (congrArg some (by kernel_rfl))
 f276 := Tryz.func109.trans (congrArg some (by kernel_rfl))
 f277 := Tryz.func172.trans (congrArg some (by kernel_rfl))
 t0 := Tryz.underlying0
 a0 := Tryz.isAgg0
 z0 := Tryz.sizeOf0
 v0 := Tryz.zeroValue0
 t3 := Tryz.underlying3
 a3 := Tryz.isAgg3
 z3 := Tryz.sizeOf3
 v3 := Tryz.zeroValue3
 t4 := Tryz.underlying4
 a4 := Tryz.isAgg4
 z4 := Tryz.sizeOf4
 v4 := Tryz.zeroValue4
 t9 := Tryz.underlying9
 a9 := Tryz.isAgg9
 z9 := Tryz.sizeOf9
 v9 := Tryz.zeroValue9
 t20 := Tryz.underlying20
 a20 := Tryz.isAgg20
 z20 := Tryz.sizeOf20
 v20 := Tryz.zeroValue20
 t31 := Tryz.underlying150
 a31 := Tryz.isAgg150
 z31 := Tryz.sizeOf150
 v31 := Tryz.zeroValue150
 t37 := TV
 a37 := Tryz.isAgg47
 z37 := Tryz.sizeOf47
 v37 := Tryz.zeroValue47
 t70 := Tryz.underlying93
 a70 := Tryz.isAgg93
 z70 := Tryz.sizeOf93
 v70 := Tryz.zeroValue93
 t72 := Tryz.underlying95
 a72 := Tryz.isAgg95
 z72 := Tryz.sizeOf95
 v72 := Tryz.zeroValue95
 t75 := Tryz.underlying97
 a75 := Tryz.isAgg97
 z75 := Tryz.sizeOf97
 v75 := Tryz.zeroValue97
 t76 := Tryz.underlying98
 a76 := Tryz.isAgg98
 z76 := Tryz.sizeOf98
 v76 := Tryz.zeroValue98
 t127 := Tryz.underlying152
 a127 := Tryz.isAgg152
 z127 := Tryz.sizeOf152
 v127 := Tryz.zeroValue152
 t164 := Tryz.underlying181
 a164 := Tryz.isAgg181
 z164 := Tryz.sizeOf181
 v164 := Tryz.zeroValue181 }
theorem Ce : Builder.Extra Tryz.prog Tryz.lays156_ren := {
 sizeBuilder := by kernel_rfl
 liesBuilder := by kernel_rfl
 t5 := Tryz.underlying5
 a5 := Tryz.isAgg5
 z5 := Tryz.sizeOf5
 v5 := Tryz.zeroValue5
 infoByte := by kernel_rfl
 cellsByte := by kernel_rfl
 sizeByte := by kernel_rfl
 neB5 := by decide }
open Go.RowKit in
theorem Tryz.strings_Join_none (a : Option Addr) (c : Nat) (sep : ByteArray) (w : World) :
  Calls Tryz.prog 84 #[.slice a 0 c, .string sep] w fun e w' => e = .returned (.string ⟨#[]⟩) ∧ w' = w := Any.strings_Join_none El Ce a c sep w
open Go.RowKit in
theorem Tryz.strings_Join (bk o c : Nat) (xs : List ByteArray) (sep : ByteArray) (w : World) (hcells : ∀ (j : Nat) x, xs[j]? = some x → w.cell? ⟨bk, o + j, none⟩ = some (.string x)) (hbk : bk < w.heap.size) (hN : xs.length ≤ 140737488355328) (hcap : xs.length ≤ c) (hlen : (Lib.join (xs.map (·.data.toList)) sep.data.toList).length ≤ 140737488355328) :
  Calls Tryz.prog 84 #[.slice (some ⟨bk, o, none⟩) xs.length c, .string sep] w fun e w' => e = .returned (.string ⟨(Lib.join (xs.map (·.data.toList)) sep.data.toList).toArray⟩) ∧ Below w.heap.size w w' := Any.strings_Join El Ce bk o c xs sep w hcells hbk hN hcap hlen
def Tryz.laysM171_ren : Go.Shelf.Ren := ⟨fun | 171 => 110 | 243 => 146 | 246 => 171 | 283 => 185 | 284 => 186 | 285 => 187 | 286 => 188 | 129 => 145 | 317 => 196 | 318 => 197 | 319 => 198 | 320 => 199 | 337 => 202 | 338 => 203 | n => n, fun | 3 => 3 | 9 => 9 | 2 => 2 | 4 => 4 | 171 => 256 | 0 => 0 | 53 => 221 | 37 => 47 | 5 => 5 | 173 => 258 | 212 => 265 | 51 => 219 | 20 => 20 | 213 => 266 | 46 => 180 | 232 => 267 | 233 => 268 | n => n, fun | 17 => 1 | 18 => 2 | 19 => 3 | n => n⟩
theorem IJ : Go.Proofs.LaysM.n171 Tryz.prog Tryz.laysM171_ren := {
 mixed := by kernel_rfl
 f129 := Tryz.func145.trans (congrArg some (by kernel_rfl))
 f171 := Tryz.func110.trans (congrArg some (by kernel_rfl))
 f243 := Tryz.func146.trans (congrArg some (by kernel_rfl))
 f246 := Tryz.func171.trans (congrArg some (by kernel_rfl))
 f283 := Tryz.func185.trans (congrArg some (by kernel_rfl))
 f284 := Tryz.func186.trans (congrArg some (by kernel_rfl))
 f285 := Tryz.func187.trans (congrArg some (by kernel_rfl))
 f286 := Tryz.func188.trans (congrArg some (by kernel_rfl))
 f317 := Tryz.func196.trans (congrArg some (by kernel_rfl))
 f318 := Tryz.func197.trans (congrArg some (by kernel_rfl))
 f319 := Tryz.func198.trans (congrArg some (by kernel_rfl))
 f320 := Tryz.func199.trans (congrArg some (by kernel_rfl))
 f337 := Tryz.func202.trans (congrArg some (by kernel_rfl))
 f338 := Tryz.func203.trans (congrArg some (by kernel_rfl))
 t0 := Tryz.underlying0
 a0 := Tryz.isAgg0
 z0 := Tryz.sizeOf0
 v0 := Tryz.zeroValue0
 t2 := Tryz.underlying2
 a2 := Tryz.isAgg2
 z2 := Tryz.sizeOf2
 v2 := Tryz.zeroValue2
 t3 := Tryz.underlying3
 a3 := Tryz.isAgg3
 z3 := Tryz.sizeOf3
 v3 := Tryz.zeroValue3
 t4 := Tryz.underlying4
 a4 := Tryz.isAgg4
 z4 := Tryz.sizeOf4
 v4 := Tryz.zeroValue4
 t5 := Tryz.underlying5
 a5 := Tryz.isAgg5
 z5 := Tryz.sizeOf5
 v5 := Tryz.zeroValue5
 t9 := Tryz.underlying9
 a9 := Tryz.isAgg9
 z9 := Tryz.sizeOf9
 v9 := Tryz.zeroValue9
 t20 := Tryz.underlying20
 a20 := Tryz.isAgg20
 z20 := Tryz.sizeOf20
 v20 := Tryz.zeroValue20
 t37 := TV
 a37 := Tryz.isAgg47
 z37 := Tryz.sizeOf47
 v37 := Tryz.zeroValue47
 t46 := Tryz.underlying180
 a46 := Tryz.isAgg180
 z46 := Tryz.sizeOf180
 v46 := Tryz.zeroValue180
 t51 := Tryz.underlying219
 a51 := Tryz.isAgg219
 z51 := Tryz.sizeOf219
 v51 := Tryz.zeroValue219
 t53 := Tryz.underlying221
 a53 := Tryz.isAgg221
 z53 := Tryz.sizeOf221
 v53 := Tryz.zeroValue221
 t171 := Tryz.underlying256
 a171 := Tryz.isAgg256
 z171 := Tryz.sizeOf256
 v171 := Tryz.zeroValue256
 t173 := Tryz.underlying258
 a173 := Tryz.isAgg258
 z173 := Tryz.sizeOf258
 v173 := Tryz.zeroValue258
 t212 := Tryz.underlying265
 a212 := Tryz.isAgg265
 z212 := Tryz.sizeOf265
 v212 := Tryz.zeroValue265
 t213 := Tryz.underlying266
 a213 := Tryz.isAgg266
 z213 := Tryz.sizeOf266
 t232 := Tryz.underlying267
 a232 := Tryz.isAgg267
 z232 := Tryz.sizeOf267
 v232 := Tryz.zeroValue267
 t233 := Tryz.underlying268
 a233 := Tryz.isAgg268
 z233 := Tryz.sizeOf268
 v233 := Tryz.zeroValue268
 g17 := by kernel_rfl
 g18 := by kernel_rfl
 g19 := by kernel_rfl
 i0 := by kernel_rfl
 i2 := by kernel_rfl
 i3 := by kernel_rfl
 i4 := by kernel_rfl
 i5 := by kernel_rfl
 i9 := by kernel_rfl
 i20 := by kernel_rfl
 i37 := by kernel_rfl
 i46 := by kernel_rfl
 i51 := by kernel_rfl
 i53 := by kernel_rfl
 i171 := by kernel_rfl
 i173 := by kernel_rfl
 i212 := by kernel_rfl
 i232 := by kernel_rfl
 i233 := by kernel_rfl
 m17 := by kernel_rfl
 m18 := by kernel_rfl
 m19 := by kernel_rfl }
open Go.RowKit Go.Sort Go.Lib in
theorem Tryz.strconv_Itoa (n : Int) (h0 : -9223372036854775808 ≤ n) (h1 : n ≤ 9223372036854775807) (w : World) (htab : Lib.TabIs Tryz.prog w "internal/strconv.uint64pow10" .u64 Lib.pow10Tab) :
  Calls Tryz.prog 110 #[.int .i64 n] w fun e w' => e = .returned (.string ⟨(Lib.itoa n).toArray⟩) ∧ ∃ k os, w' = grow (w.drewN k) os := Any.strconv_Itoa IJ n h0 h1 w htab
def Tryz.lays112_ren : Go.Shelf.Ren := ⟨fun | 112 => 53 | n => n, fun | 28 => 44 | 3 => 3 | 4 => 4 | 0 => 0 | n => n, fun | n => n⟩
theorem F7 : Go.Proofs.Lays.n112 Tryz.prog Tryz.lays112_ren := {
 mixed := by kernel_rfl
 f112 := Tryz.func53.trans (congrArg some (by kernel_rfl))
 t0 := Tryz.underlying0
 a0 := Tryz.isAgg0
 z0 := Tryz.sizeOf0
 v0 := Tryz.zeroValue0
 t3 := Tryz.underlying3
 a3 := Tryz.isAgg3
 z3 := Tryz.sizeOf3
 v3 := Tryz.zeroValue3
 t4 := Tryz.underlying4
 a4 := Tryz.isAgg4
 z4 := Tryz.sizeOf4
 v4 := Tryz.zeroValue4
 t28 := TT
 a28 := Tryz.isAgg44
 z28 := Tryz.sizeOf44
 v28 := Tryz.zeroValue44 }
open Go.RowKit Go.Lib Go.Sort in
theorem Tryz.slices_Reverse_int (blk off cap : Nat) (zs : List Int) (w : World) (hH : Holds (Value.int .i64) w blk off zs.toArray) (hsz : zs.length ≤ 9223372036854775807) :
  Calls Tryz.prog 53 #[.slice (some ⟨blk, off, none⟩) zs.length cap] w fun e w' => e = .returned (.tuple #[]) ∧ ∃ n, w' = putRow (Value.int .i64) (Sort.ahead w n) blk off zs.reverse.toArray := Any.slices_Reverse_int F7 blk off cap zs w hH hsz
open Go.RowKit Go.Lib Go.Sort in
theorem Tryz.slices_Reverse_int_empty (a : Option Addr) (cap : Nat) (w : World) :
  Calls Tryz.prog 53 #[.slice a 0 cap] w fun e w' => e = .returned (.tuple #[]) ∧ w' = w := Any.slices_Reverse_int_empty F7 a cap w
def Tryz.laysNm215_ren : Go.Shelf.Ren := ⟨fun | 15 => 52 | n => n, fun | 22 => 44 | 3 => 3 | 4 => 4 | n => n, fun | n => n⟩
theorem Dt : Go.Proofs.Lays2.n15 Tryz.prog Tryz.laysNm215_ren := {
 mixed := by kernel_rfl
 f15 := Tryz.func52.trans (congrArg some (by kernel_rfl))
 t3 := Tryz.underlying3
 a3 := Tryz.isAgg3
 z3 := Tryz.sizeOf3
 v3 := Tryz.zeroValue3
 t4 := Tryz.underlying4
 a4 := Tryz.isAgg4
 z4 := Tryz.sizeOf4
 v4 := Tryz.zeroValue4
 t22 := TT
 a22 := Tryz.isAgg44
 z22 := Tryz.sizeOf44
 v22 := Tryz.zeroValue44
 i3 := by kernel_rfl }
open Go.RowKit Go.Lib in
theorem Tryz.slices_Clone_int (b off n c : Nat) (zs : List Int) (w : World) (hz : n ≤ zs.length) (hbig : n * 8 ≤ 140737488355328) (hc : ∀ j, j < zs.length → w.cell? ⟨b, off + j, none⟩ = some (.int .i64 (zs.getD j 0))) :
  Calls Tryz.prog 52 #[.slice (some ⟨b, off, none⟩) n c] w fun e w' => ∃ v', e = .returned v' ∧ w'.ownsRow w.heap.size 3 1 v' n ((zs.take n).map (Value.int .i64)) ∧ v' ≠ .slice none 0 0 ∧ Below w.heap.size w w' := Any.slices_Clone_int Dt b off n c zs w hz hbig hc
open Go.RowKit Go.Lib in
theorem Tryz.slices_Clone_int_nil (n c : Nat) (w : World) :
  Calls Tryz.prog 52 #[.slice none n c] w fun e w' => e = .returned (.slice none 0 0) ∧ w' = w := Any.slices_Clone_int_nil Dt n c w
open Go.RowKit Go.Lib in
theorem Tryz.slices_Clone_int_zero (a : Addr) (c : Nat) (w : World) :
  Calls Tryz.prog 52 #[.slice (some a) 0 c] w fun e w' => ∃ v', e = .returned v' ∧ w'.ownsRow w.heap.size 3 1 v' 0 [] ∧ v' ≠ .slice none 0 0 ∧ Below w.heap.size w w' := Any.slices_Clone_int_zero Dt a c w
open Go.RowKit in
theorem Tryz.Builder_WriteString (B b : Nat) (bs : List Value) (s : ByteArray) (w : World) (h : Lib.IsBuilder 95 5 B b bs w) (hlen : bs.length + s.size ≤ 140737488355328) (hBw : B ≤ w.heap.size) :
  Calls Tryz.prog 42 #[.pointer (some ⟨b, 0, none⟩), .string s] w fun e w' => e = .returned (.tuple #[.int .i64 s.size, .nilIface]) ∧ (Lib.BuilderAt 95 5 B b (.pointer (some ⟨b, 0, none⟩)) (bs ++ Lib.strCells s) w' ∧ Below B w w') :=
 Any.Builder_WriteString { El with } Ce B b bs s w h hlen hBw
end Go.Proofs

namespace Go.Fl
open Go Go.Proofs
/-- A slice of integers, its place written out. -/
def SlB (w : World) (v : Value) (xs : List Int) : Prop :=
 (∃ A c, v = .slice A 0 c ∧ xs = []) ∨ ∃ g off c, v = .slice (some ⟨g, off, none⟩) xs.length c ∧ xs.length ≤ c ∧ c ≤ 9223372036854775807 ∧ ∀ (j : Nat) x, xs[j]? = some x → w.cell? ⟨g, off + j, none⟩ = some (.int .i64 x)
section
variable {w0 w w' : World} {K : List Nat} {L F : List Chunk} {v : Value} {xs : List Int} {t : Nat}
theorem SlB.keep0 (h : SlB w0 v xs) (hw : Own w0 [] w L) : SlB w v xs := by
 rcases h with h | ⟨g, off, c, rfl, h1, h2, h3⟩
 ·exact .inl h
 refine .inr ⟨g, off, c, rfl, h1, h2, fun j x hx => ?_⟩
 have hc := h3 j x hx
 rw [hw.oldCell (World.block_lt_of_cell? w0 _ hc) (by simp)]; exact hc
theorem Fw (hw : Own w0 K w (slc v t 1 (ints xs) :: F)) : SlB w v xs := by
 rcases B9 hw with ⟨rfl, h, _⟩ | ⟨g, len, cap, sp, rfl, h1, h2, h3, h4, hO⟩
 ·exact .inl ⟨_, _, rfl, by cases xs; rfl; simp [ints] at h⟩
 simp at h1
 subst h1
 refine .inr ⟨g, 0, cap, rfl, h2, h3, fun j x hx => ?_⟩
 have := hO.holds _ (TI ..)
 rw [cell_of_row w g _ _ t (0, 0) this]
 have hj := (TA.1 hx).1
 rw [List.getElem?_toArray, Nat.zero_add, TK (by simpa using hj), BL hx]
/-- A part of it. -/
theorem SlB.drop {A : Option Addr} {len c k : Nat} (h : SlB w (.slice A len c) xs) (hk : k ≤ len) : SlB w (.slice (if c = k then A else A.map (·.add (k * 1))) (len - k) (c - k)) (xs.drop k) := by
 rcases h with ⟨A', c', e, rfl⟩ | ⟨g, off, c', e, h1, h2, h3⟩
 ·cases e
  obtain rfl : k = 0 := by omega
  exact .inl ⟨_, _, rfl, by simp⟩
 injection e with e1 e2 e3
 subst e1 e2 e3
 by_cases hl : k = xs.length
 ·exact .inl ⟨_, _, by rw [hl, Nat.sub_self], by rw [hl, List.drop_length]⟩
 rw [if_neg (by omega)]
 refine .inr ⟨g, off + k, c - k, ?_, by rw [List.length_drop]; omega, by omega, fun j x hx => ?_⟩
 ·rw [List.length_drop]
  congr 1
  simp only [Option.map_some, Addr.add, Nat.mul_one]
  by_cases h0 : k = 0
  ·subst h0; simp
  rw [if_neg h0]
 rw [List.getElem?_drop] at hx
 rw [Nat.add_assoc]; exact h3 _ _ hx
theorem SlB.take {A : Option Addr} {len c k : Nat} (h : SlB w (.slice A len c) xs) (hl : len = xs.length) (hk : k ≤ len) : SlB w (.slice A k c) (xs.take k) := by
 rcases h with ⟨A', c', e, rfl⟩ | ⟨g, off, c', e, h1, h2, h3⟩
 ·cases e
  obtain rfl : k = 0 := by omega
  exact .inl ⟨_, _, rfl, by simp⟩
 injection e with e1 e2 e3
 subst e1 e2 e3
 refine .inr ⟨g, off, c, by rw [List.length_take, Nat.min_eq_left hk], by rw [List.length_take]; omega, h2, fun j x hx => ?_⟩
 rw [List.getElem?_take] at hx
 split at hx
 ·exact h3 j x hx
 cases hx
theorem SlB.slv (h : SlB w v xs) (hf : xs.length ≤ 17592186044416) : ∃ A c, v = .slice A xs.length c ∧ Rd w A (ints xs) := by
 rcases h with ⟨A, c, rfl, rfl⟩ | ⟨g, off, c, rfl, h1, h2, h3⟩
 ·exact ⟨A, c, rfl, fun j u h => by simp [ints] at h⟩
 refine ⟨_, c, rfl, fun j u hj => ⟨_, rfl, ?_⟩⟩
 unfold ints at hj
 rw [List.getElem?_map, Option.map_eq_some_iff] at hj
 obtain ⟨x, hx, rfl⟩ := hj
 have : (⟨g, off, none⟩ : Addr).add j = ⟨g, off + j, none⟩ := by
  unfold Addr.add
  by_cases h0 : j = 0
  ·subst h0; simp
  rw [if_neg h0]
 rw [this]; exact h3 j x hx
theorem Nd {vs : List Value} {n : Nat} (h : w'.ownsRow w.heap.size t 1 v n vs) (hl : vs.length = n) (hb : RowKit.Below w.heap.size w w') : Own w [] w' [slc v t 1 vs] := by
 subst hl
 have hB : ∀ g, g ∈ v.ownBlock.toList → w.heap.size ≤ g ∧ g < w'.heap.size := by
  intro g hg
  rcases h.2 with ⟨rfl, _⟩ | ⟨g', cap, cur, rfl, h1, h2, _⟩
  ·simp [Value.ownBlock] at hg
  simp [Value.ownBlock] at hg
  subst hg
  exact ⟨h1, (TP.1 h2).1⟩
 refine ⟨hb.os, hb.tape, hb.output, .inl trivial, hb.size, fun k hk _ => hb.block k hk, ?_, fun g hg => .inr (hB g (by simpa [slc] using hg)).1, fun g hg => (hB g (by simpa [slc] using hg)).2, fun c hc => ?_⟩
 ·simp only [idsOf_cons, idsOf_nil, List.append_nil, slc]
  cases v.ownBlock <;> simp
 simp at hc; subst hc
 show w'.ownsRow 0 t 1 v (vs.length / 1) vs
 rw [Nat.div_one]
 refine ⟨h.1, ?_⟩
 rcases h.2 with h2 | ⟨g', cap, cur, e, h1, r⟩
 ·exact .inl h2
 exact .inr ⟨g', cap, cur, e, Nat.zero_le _, r⟩
theorem EN (hv : SlB w v xs) (hl : xs.length ≤ 17592186044416) :
  Calls Tryz.prog 52 #[v] w (Ret w [] fun r L => L = [slc r 3 1 (ints xs)]) := by
 rcases hv with ⟨A, c, rfl, rfl⟩ | ⟨g, off, c, rfl, h1, h2, h3⟩
 ·cases A with
  | none =>
   refine (Tryz.slices_Clone_int_nil 0 c w).mono ?_
   rintro e w' ⟨rfl, rfl⟩
   exact ⟨_, _, rfl, rfl, AX (Own.start _ _)⟩
  | some a =>
   refine (Tryz.slices_Clone_int_zero a c w).mono ?_
   rintro e w' ⟨v', rfl, h1, _, h2⟩
   exact ⟨_, _, rfl, rfl, Nd h1 rfl h2⟩
 refine (Tryz.slices_Clone_int g off xs.length c xs w (Nat.le_refl _) (by omega) (fun j hj => ?_)).mono ?_
 ·rw [List.getD_eq_getElem?_getD, Tz hj]
  exact h3 j _ (Tz hj)
 rintro e w' ⟨v', rfl, h4, _, h5⟩
 rw [List.take_length] at h4
 exact ⟨_, _, rfl, rfl, Nd h4 (by simp) h5⟩
theorem Nf {g : Nat} {cs : Array Value} (hg : w.heap[g]? = some (.cells cs t (0, 0))) (f : Array Value → Array Value) (k : Nat) : Own w [g] (Sort.mapBlock (Sort.ahead w k) g f) [blk g t (f cs)] := by
 have hlt : g < w.heap.size := (TP.1 hg).1
 refine ⟨rfl, rfl, rfl, .inl trivial, by simp [Sort.mapBlock, Sort.ahead], fun k hk hn => ?_, by simp [blk], fun x hx => ?_, fun x hx => ?_, fun c hc => ?_⟩
 ·simp at hn
  simp only [Sort.mapBlock, Sort.ahead, Array.getElem?_modify]
  rw [if_neg (by omega)]
 ·simp [blk] at hx; subst hx; exact .inl (by simp)
 ·simp [blk] at hx; subst hx; simpa [Sort.mapBlock, Sort.ahead] using hlt
 simp at hc; subst hc
 simp [blk, Sort.mapBlock, Sort.ahead, Array.getElem?_modify, hg, Sort.onCells]
theorem O4 {a b : List Int} {sp : List Value} (h : b.length = a.length) : Sort.putCells (Value.int .i64) 0 b.toArray (ints a ++ sp).toArray = (ints b ++ sp).toArray := by
 apply Array.ext_getElem?
 intro k
 unfold Sort.putCells
 rw [Array.getElem?_mapIdx]
 simp only [List.getElem?_toArray, List.size_toArray, Nat.zero_le, true_and, Nat.zero_add, Nat.sub_zero]
 by_cases hk : k < b.length
 ·rw [TK (by simp; omega), TK (by simp; omega)]
  simp [ints, hk, show k < a.length by omega]
 rw [TL (by simp; omega), TL (by simp; omega)]
 have hk' : ¬ k < a.length := by omega
 simp only [h, hk', if_false, Option.map_id_fun', id, ints_length]
theorem IS (hO : Own w (idsOf [slc v 3 1 (ints xs)]) w [slc v 3 1 (ints xs)]) :
  Calls Tryz.prog 53 #[v] w (Ret w (idsOf [slc v 3 1 (ints xs)]) fun r M => M = [slc v 3 1 (ints xs.reverse)]) := by
 rcases B9 hO with ⟨rfl, h, _⟩ | ⟨g, len, cap, sp, rfl, h1, h2, h3, h4, hb⟩
 ·obtain rfl : xs = [] := by cases xs; rfl; simp [ints] at h
  refine (Tryz.slices_Reverse_int_empty none 0 w).mono ?_
  rintro e w' ⟨rfl, rfl⟩
  exact ⟨_, _, rfl, rfl, hO⟩
 simp at h1
 subst h1
 have hg := hb.holds _ (TI ..)
 refine (Tryz.slices_Reverse_int g 0 cap xs w (fun j hj => ?_) (by omega)).mono ?_
 ·have hj' : j < xs.length := by simpa using hj
  constructor
  ·rw [cell_of_row w g _ _ _ (0, 0) hg]
   rw [List.getElem?_toArray, Nat.zero_add, TK (by simpa using hj')]
   simp [ints, hj']
  have hg' : w.heap[g]? = some (.cells (ints xs ++ sp).toArray 3 (0, 0)) := hg
  simp [World.frozen?, hg']
 rintro e w' ⟨rfl, k, rfl⟩
 refine ⟨_, _, rfl, rfl, ?_⟩
 have := Nf hg (Sort.putCells (Value.int .i64) 0 xs.reverse.toArray) k
 rw [O4 (by simp)] at this
 refine BZ (by simp) (by decide) h2 h3 (by simp at h4 ⊢; omega) ?_ this
 simp
end
end Go.Fl

namespace Go.Fl
open Go Go.Proofs Go.RowKit Go.Lib Go.Sort Go.Shelf
open Classical
theorem Ef (x y : BPr) : ltOf cmpB x y = decide (Lex x.1 y.1) := by
 unfold ltOf cmpB Lex
 by_cases h1 : x.1.1 = y.1.1
 ·rw [if_pos h1]
  congr 1
  apply propext
  omega
 rw [if_neg h1]
 congr 1
 apply propext
 omega
theorem P5 : SWO (ltOf cmpB) where
 irrefl x := by rw [Ef]; simp [Lex]
 trans x y z h1 h2 := by
  rw [Ef] at *
  have h1 := of_decide_eq_true h1
  have h2 := of_decide_eq_true h2
  refine decide_eq_true ?_
  unfold Lex at *; omega
 ntrans x y z h1 h2 := by
  rw [Ef] at *
  have h1 := of_decide_eq_false h1
  have h2 := of_decide_eq_false h2
  refine decide_eq_false ?_
  unfold Lex at *; omega
theorem MJ (x y : BPr) (h1 : ltOf cmpB x y = false) (h2 : ltOf cmpB y x = false) : x = y := by
 rw [Ef] at *
 have h1 := of_decide_eq_false h1
 have h2 := of_decide_eq_false h2
 unfold Lex at *
 exact Subtype.ext (Prod.ext (by omega) (by omega))
theorem Oz (blk off size : Nat) (w : World) : CmpLays Tryz.prog 75 #[] encB 2 cmpB blk off size w := by
 intro m os dk hdk x y
 generalize sortWorldK encB 2 w blk off m dk os = W
 exact @H9 ⟨False⟩ id x y W
theorem PJ (es : List BPr) : flatK encB 2 es.toArray = (prs (es.map (·.1))).toArray := by
 apply ext_get!
 ·simp
 intro t ht
 simp at ht
 rw [get_flatK _ _ _ _ (by simpa using ht)]
 obtain ⟨e, he⟩ : ∃ e, es[t / 2]? = some e := ⟨_, Tz (by omega)⟩
 have h1 := GX (es := es.map (·.1)) (i := t / 2) (e := e.1) (by simp [he])
 have hd : es.toArray[t / 2]! = e := by simp [he]
 rw [hd]
 rcases (show t % 2 = 0 ∨ t % 2 = 1 by omega) with h0 | h0
 ·have : t / 2 * 2 = t := by omega
  rw [h0]
  rw [this] at h1
  simp [encB, h1.1]
 have : t / 2 * 2 + 1 = t := by omega
 rw [h0]
 rw [this] at h1
 simp [encB, h1.2]
theorem O5 {a b : List Value} {sp : List Value} (h : b.length = a.length) : Sort.putCells id 0 b.toArray (a ++ sp).toArray = (b ++ sp).toArray := by
 apply Array.ext_getElem?
 intro k
 unfold Sort.putCells
 rw [Array.getElem?_mapIdx]
 simp only [List.getElem?_toArray, List.size_toArray, Nat.zero_le, true_and, Nat.zero_add, Nat.sub_zero]
 by_cases hk : k < b.length
 ·rw [TK (by omega), TK hk]
  simp [hk, show k < a.length by omega]
 rw [TL (by omega), TL (by omega)]
 have hk' : ¬ k < a.length := by omega
 simp only [h, hk', if_false, Option.map_id_fun', id]
theorem KD {v : Value} {es : List BPr} {w : World} (hO : Own w (idsOf [slc v 43 2 (prs (es.map (·.1)))]) w [slc v 43 2 (prs (es.map (·.1)))]) (hl : es.length ≤ 1000000000) :
  Calls Tryz.prog 74 #[v, .func (.func 75) #[] #[]] w (Ret w (idsOf [slc v 43 2 (prs (es.map (·.1)))]) fun r M => ∃ fs : List BPr, M = [slc v 43 2 (prs (fs.map (·.1)))] ∧ fs.Perm es ∧ fs.Pairwise fun a b => ¬ Lex b.1 a.1) := by
 rcases B9 hO with ⟨rfl, h, _⟩ | ⟨g, len, cap, sp, rfl, h1, h2, h3, h4, hb⟩
 ·refine (AnyF.slices_SortFunc_none { C1 with } none 0 (.func (.func 75) #[] #[]) w).mono ?_
  rintro e w' ⟨rfl, rfl⟩
  obtain rfl : es = [] := by cases es with
   | nil => rfl
   | cons a r => simp [prs] at h
  exact ⟨_, _, rfl, ⟨[], rfl, List.Perm.refl _, List.Pairwise.nil⟩, hO⟩
 simp at h1
 obtain rfl : es.length = len := by omega
 have hg : w.heap[g]? = some (.cells (prs (es.map (·.1)) ++ sp).toArray 43 (0, 0)) := hb.holds _ (TI ..)
 have hlt : g < w.heap.size := (TP.1 hg).1
 have hH : HoldsK encB 2 w g 0 es.toArray := by
  unfold HoldsK
  rw [PJ]
  intro j hj
  have hj' : j < (prs (es.map (·.1))).length := by simpa using hj
  constructor
  ·rw [cell_of_row w g _ _ _ (0, 0) hg, List.getElem?_toArray, Nat.zero_add, TK hj', Tz hj']
   simp [Tz hj']
  simp [World.frozen?, hg]
 have hcon := AnyQ.slices_SortFunc_total C1 2 Tryz.isAgg43 Tryz.sizeOf43 encB (fun _ => rfl) (fun x v hv => by simp [encB] at hv; rcases hv with rfl | rfl <;> rfl) cmpB P5 75 #[] g 0 cap es.toArray w
  (enters_of Tryz.func75 (by kernel_rfl) rfl) (Oz g 0 es.toArray.size w) hH hlt (by simp; omega) MJ
 refine hcon.mono ?_
 rintro e w' ⟨rfl, n, os, rfl⟩
 obtain ⟨fs, hfs⟩ : ∃ fs, fs = es.mergeSort fun x y => !(ltOf cmpB) y x := ⟨_, rfl⟩
 have hp : fs.Perm es := by rw [hfs]; exact List.mergeSort_perm _ _
 have hpl : fs.length = es.length := hp.length_eq
 have hsrt : fs.Pairwise fun a b => ¬ Lex b.1 a.1 := by
  have := List.pairwise_mergeSort (le := fun x y => !(ltOf cmpB) y x) (fun a b c h1 h2 => by
   simp only [Bool.not_eq_true', Ef, decide_eq_false_iff_not] at *
   unfold Lex at *; omega) (fun a b => by
   simp only [Bool.or_eq_true, Bool.not_eq_true', Ef, decide_eq_false_iff_not]
   unfold Lex; omega) es
  rw [← hfs] at this
  refine this.imp fun {a b} h => ?_
  simpa [Ef] using h
 refine ⟨_, [slc (.slice (some ⟨g, 0, none⟩) es.length cap) 43 2 (prs (fs.map (·.1)))], rfl, ⟨fs, rfl, hp, hsrt⟩, ?_⟩
 have hm := Nf hg (Sort.putCells id 0 (flatK encB 2 fs.toArray)) n
 have hw' : Sort.mapBlock (Sort.ahead w n) g (Sort.putCells id 0 (flatK encB 2 fs.toArray)) = putRowK encB 2 (Sort.ahead w n) g 0 fs.toArray := rfl
 rw [hw', PJ, O5 (by simp [hpl])] at hm
 have hgr := Own.frame (Lc := []) (F := [_]) hm (HI _ 0 os) (fun k hk => by simp at hk)
 rw [← hfs]
 refine (BZ (m := 2) (vs := prs (fs.map (·.1))) (by simp [hpl]) (by decide) h2 h3 (by simp [hpl] at h4 ⊢; omega) ?_ hgr)
 simp [← hpl]
end Go.Fl

namespace Go.Fl
open Go
theorem FS {α : Type} (b : α → Nat) : ∀ {l : List α} {j : Nat} {e : α}, (l.map b).Nodup → l[j]? = some e → l.filter (fun x => b x != b e) = l.eraseIdx j
 | [], j, e, _, h => by simp at h
 | x :: r, 0, e, hn, h => by
  simp at h; subst h
  simp only [List.map_cons, List.nodup_cons] at hn
  rw [List.filter_cons, if_neg (by simp), List.eraseIdx_cons_zero, List.filter_eq_self]
  intro y hy
  have : b y ≠ b x := fun e => hn.1 (by rw [← e]; exact List.mem_map_of_mem hy)
  simpa using this
 | x :: r, j + 1, e, hn, h => by
  simp only [List.getElem?_cons_succ] at h
  simp only [List.map_cons, List.nodup_cons] at hn
  have : b x ≠ b e := fun e' => hn.1 (by rw [e']; exact List.mem_map_of_mem (TD h))
  rw [List.filter_cons, if_pos (by simpa using this), List.eraseIdx_cons_succ, FS b hn.2 h]
section
variable {κ : Type} [DecidableEq κ]
/-- A map and an iterator over it; 'left': the entries that have not come yet; 'last': the one that came last. -/
def mit (enc : κ → Value) (gm gi : Nat) (m left : List (κ × Value)) (last : Option (κ × Value)) : Chunk :=
 ⟨[gm, gi], fun w => ∃ es clock seen, w.heap[gm]? = some (.map es clock) ∧ es.toList.map (fun e => (e.key, e.val)) = m.map (fun p => (enc p.1, p.2)) ∧ (es.toList.map (·.born)).Nodup ∧ (∀ e, e ∈ es.toList → e.born < clock) ∧
   w.heap[gi]? = some (.mapIter (some gm) clock seen clock) ∧ (leftOf es seen).toList.map (fun e => (e.key, e.val)) = left.map (fun p => (enc p.1, p.2)) ∧
   ∀ p, last = some p → ∃ (e : MapEntry) (s0 : Array Nat), e ∈ es.toList ∧ seen = s0.push e.born ∧ e.key = enc p.1 ∧ e.val = p.2,
  fun w w' h hh => by
   obtain ⟨es, c, s, h1, h2, h3, h4, h5, h6⟩ := hh
   exact ⟨es, c, s, (h gm (by simp)).trans h1, h2, h3, h4, (h gi (by simp)).trans h5, h6⟩⟩
variable {P : Program} {w0 w : World} {K : List Nat} {n : Nat} {ds : List Deferred} {E : Env} {L : List Chunk} {o : Oper} {x : Operand} {v : Value} {enc : κ → Value} {m left : List (κ × Value)} {gm gi : Nat} {v0 : Option (κ × Value)}
theorem Nu {t kt et : TypeId} (i : Nat) (hi : L[i]? = some (mpc enc gm m)) (ho : o.op = .range t x) (hx : ev n E x = some (.map (some gm))) (ht : P.underlying t = some (.map kt et)) :
  Gen P w0 K n ds E L o (fun v M => ∃ gi, v = .pointer (some ⟨gi, 0, none⟩) ∧ M = L.set i (mit enc gm gi m m none)) := by
 intro a w ha hw
 obtain ⟨es, clock, h1, h2, h3, h4⟩ := D3 i hi hw
 have hlt : gm < w.heap.size := (TP.1 h1).1
 have hr : (execOp a.eval o).run P w = .ok (.value (.pointer (some ⟨w.heap.size, 0, none⟩))) (w.alloc (.mapIter (some gm) clock #[] clock)) := by
  have hg : (getObj gm).run P w = .ok (.map es clock) w := by simp [getObj, Sem.run, h1]
  simp only [execOp, ho, ha.ev hx, Instr.range, Sem.run_bind, run_underlying ht, Result.andThen_ok, hg, Sem.run_pure]
  rfl
 refine RunsTo.value hr ⟨_, ⟨w.heap.size, rfl, rfl⟩, ?_⟩
 have hO : Own w [gm] (w.alloc (.mapIter (some gm) clock #[] clock)) [mit enc gm w.heap.size m m none] := by
  refine ⟨rfl, rfl, rfl, Lo.refl _, by simp, fun k hk hn => ?_, ?_, fun g hg => ?_, fun g hg => ?_, fun c hc => ?_⟩
  ·simp only [World.alloc, Array.getElem?_push]; rw [if_neg (by omega)]
  ·simp [mit]; exact fun e => by omega
  ·simp [mit] at hg; rcases hg with rfl | rfl
   ·exact .inl (by simp)
   exact .inr (Nat.le_refl _)
  ·simp [mit] at hg; rcases hg with rfl | rfl
   ·simp; omega
   simp
  simp at hc; subst hc
  refine ⟨es, clock, #[], ?_, h2, h3, h4, ?_, ?_, fun p hp => by cases hp⟩
  ·simp only [World.alloc, Array.getElem?_push]; rw [if_neg (by omega)]; exact h1
  ·simp only [World.alloc, Array.getElem?_push]; rw [if_pos trivial]
  have : leftOf es #[] = es := by simp [leftOf]
  rw [this]; exact h2
 exact (Own.frame (Lc := [mpc enc gm m]) (hw.perm (AO hi).symm) hO (fun k hk => by simp [mpc] at hk ⊢; exact hk)).perm (ED hi)
theorem PD (i : Nat) (hi : L[i]? = some (mit enc gm gi m left v0)) (ho : o.op = .next x false) (hx : ev n E x = some (.pointer (some ⟨gi, 0, none⟩))) :
  Gen P w0 K n ds E L o (fun v M => (v = .tuple #[.bool false] ∧ left = [] ∧ M = L) ∨ (∃ j p, left[j]? = some p ∧ v = .tuple #[.bool true, enc p.1, p.2] ∧ M = L.set i (mit enc gm gi m (left.eraseIdx j) (some p)))) := by
 intro a w ha hw
 obtain ⟨es, clock, seen, h1, h2, h3, h4, h5, h6, h7⟩ := D3 i hi hw
 rcases run_next_at (P := P) w o.type gi gm clock clock seen es clock h5 h1 h4 (Nat.le_refl _) with ⟨hz, hr⟩ | ⟨e, he, w1, hw1, hr⟩
 ·have hl : left = [] := by
   have := congrArg List.length h6
   simp only [List.length_map, Array.length_toList, hz] at this
   exact TO this.symm
  refine RunsTo.value (v := .tuple #[.bool false]) (w' := w) (by simp only [execOp, ho, ha.ev hx, Sem.run_bind, hr, Result.andThen_ok, Sem.run_pure]) ⟨L, .inl ⟨rfl, hl, rfl⟩, hw⟩
 obtain ⟨j, hj⟩ := TF.1 he
 have hpj : ∃ p, left[j]? = some p ∧ e.key = enc p.1 ∧ e.val = p.2 := by
  have h8 : ((leftOf es seen).toList.map fun e => (e.key, e.val))[j]? = some (e.key, e.val) := by rw [List.getElem?_map, hj]; rfl
  rw [h6, List.getElem?_map, Option.map_eq_some_iff] at h8
  obtain ⟨p, hp, hpe⟩ := h8
  exact ⟨p, hp, (congrArg Prod.fst hpe).symm, (congrArg Prod.snd hpe).symm⟩
 obtain ⟨p, hp, hk, hv⟩ := hpj
 have hees : e ∈ es.toList := by
  unfold leftOf at he
  rw [Array.toList_filter] at he
  exact (List.mem_filter.1 he).1
 refine RunsTo.value (v := .tuple #[.bool true, enc p.1, p.2]) (w' := ChangeMaps.setBlock w1 gi (.mapIter (some gm) clock (seen.push e.born) clock)) (by simp only [execOp, ho, ha.ev hx, Sem.run_bind, hr, Result.andThen_ok, Sem.run_pure, hk, hv]) ⟨_, .inr ⟨j, p, hp, rfl, rfl⟩, ?_⟩
 have hw1' : Own w0 K w1 L := by
  rcases hw1 with rfl | rfl
  ·exact hw
  exact hw.drew
 have hheap : w1.heap = w.heap := by rcases hw1 with rfl | rfl <;> rfl
 have hne : gm ≠ gi := by
  intro e
  rw [e, h5] at h1; cases h1
 have hlm : gm < w1.heap.size := by rw [hheap]; exact (TP.1 h1).1
 have hli : gi < w1.heap.size := by rw [hheap]; exact (TP.1 h5).1
 have hO : Own w1 [gm, gi] (ChangeMaps.setBlock w1 gi (.mapIter (some gm) clock (seen.push e.born) clock)) [mit enc gm gi m (left.eraseIdx j) (some p)] := by
  refine ⟨rfl, rfl, rfl, Lo.refl _, by simp [ChangeMaps.setBlock], fun k hk hn => ?_, by simp [mit, hne], fun g hg => .inl (by simpa [mit] using hg), fun g hg => ?_, fun c hc => ?_⟩
  ·simp at hn
   show (w1.heap.setIfInBounds gi _)[k]? = _
   rw [Array.getElem?_setIfInBounds_ne (by omega)]
  ·simp [mit] at hg
   rcases hg with rfl | rfl <;> simpa [ChangeMaps.setBlock]
  simp at hc; subst hc
  refine ⟨es, clock, seen.push e.born, ?_, h2, h3, h4, ?_, ?_, fun p' hp' => ?_⟩
  ·show (w1.heap.setIfInBounds gi _)[gm]? = _
   rw [Array.getElem?_setIfInBounds_ne (by omega), hheap]; exact h1
  ·show (w1.heap.setIfInBounds gi _)[gi]? = _
   simp [hli]
  ·have hnd : ((leftOf es seen).toList.map (·.born)).Nodup := by
    unfold leftOf
    rw [Array.toList_filter]
    exact h3.sublist ((List.filter_sublist).map _)
   have e1 : (leftOf es (seen.push e.born)).toList = (leftOf es seen).toList.filter (fun x => x.born != e.born) := by
    unfold leftOf
    rw [Array.toList_filter, Array.toList_filter, List.filter_filter]
    apply List.filter_congr
    intro y _
    by_cases hye : y.born = e.born
    ·simp [hye]
    have hye' : ¬ e.born = y.born := fun h => hye h.symm
    simp [hye, bne]
   rw [e1, FS (·.born) hnd hj, ChangeMaps.map_eraseIdx, h6, ChangeMaps.map_eraseIdx]
  cases hp'
  exact ⟨e, seen, hees, rfl, hk, hv⟩
 exact (Own.frame (Lc := [mit enc gm gi m left v0]) (hw1'.perm (AO hi).symm) hO (fun k hk => by simpa [mit] using hk)).perm (ED hi)
theorem MX {p : κ × Value} (i : Nat) (hi : L[i]? = some (mit enc gm gi m left (some p))) (ho : o.op = .entry x) (hx : ev n E x = some (.pointer (some ⟨gi, 0, none⟩))) : Val P w0 K n ds E L o (.tuple #[enc p.1, p.2]) := by
 intro a w ha hw
 obtain ⟨es, clock, seen, h1, h2, h3, h4, h5, h6, h7⟩ := D3 i hi hw
 obtain ⟨e, s0, he, rfl, hk, hv⟩ := h7 p rfl
 have := run_entry_at (P := P) w gi gm clock s0 es clock e h5 h1 he h3
 simp only [execOp, ho, ha.ev hx, Sem.run_bind, this, Result.andThen_ok, Sem.run_pure, hk, hv]
end
section
variable {P : Program} {n : Nat} {ds : List Deferred} {E : Env} {o : Oper} {x y : Operand}
theorem O9 {t t' : TypeId} {i q : Int} (ho : o.op = .binOp .quo t x y t') (hx : ev n E x = some (.int .i64 i)) (hy : ev n E y = some (.int .i64 2)) (hi : i = 2 * q) (hq : -9223372036854775808 ≤ q ∧ q ≤ 9223372036854775807) :
  Pur P n ds E o (.int .i64 q) := C9 (r := 0) ho hx hy fun w => by
 have h1 : i.tdiv 2 = q := by rw [hi]; exact Int.mul_tdiv_cancel_left _ (by omega)
 simp [binOp, Op.intDiv, h1, DU (i := q) ⟨by omega, by omega⟩]
end
end Go.Fl

namespace Go.Fl
open Go
section
variable {κ : Type} [DecidableEq κ]
variable {P : Program} {w0 w : World} {K : List Nat} {n : Nat} {ds : List Deferred} {E : Env} {L : List Chunk} {o : Oper} {x y : Operand} {enc : κ → Value} {m : List (κ × Value)} {g : Nat}
theorem Ks {t kt et : TypeId} (i : Nat) (hi : L[i]? = some (mpc enc g m)) (ho : o.op = .call ⟨.builtin .len, #[x], #[t]⟩) (hx : ev n E x = some (.map (some g))) (ht : P.underlying t = some (.map kt et)) :
  Val P w0 K n ds E L o (.int .i64 m.length) := by
 intro a w ha hw
 obtain ⟨es, clock, h1, h2, _⟩ := D3 i hi hw
 have hg : (getObj g).run P w = .ok (.map es clock) w := by simp [getObj, Sem.run, h1]
 have hl : es.size = m.length := by have := congrArg List.length h2; simpa using this
 simp [execOp, ho, resolve, ha.ev hx, invoke, builtin, Builtin.len_, run_underlying ht, hg, goInt, hl]
theorem DI {t e sz len : Nat} {ad ad' : Addr} {k : IntKind} {i : Int} (ho : o.op = .indexAddr t x y) (hx : ev n E x = some (.pointer (some ad))) (hy : ev n E y = some (.int k i))
  (ht : P.underlying t = some (.array len e)) (hm : sizeT P e = some sz) (h0 : 0 ≤ i) (h1 : i < len) (he : ad.add (i.toNat * sz) = ad') : Pur P n ds E o (.pointer (some ad')) := by
 intro a w ha; subst he
 simp [execOp, ho, ha.ev hx, ha.ev hy, Instr.indexAt, asIntOf, Instr.sureAddr, run_underlying ht, BG hm, h0, h1]
theorem JK {t e sz len : Nat} {ps : Array (Nat × Operand)} {vs : List (Nat × Value)} {zv : Value} {zs l : List Value} {cs : Array Value} (ho : o.op = .build t ps) (hp : evps n E ps.toList = some vs)
  (ht : P.underlying t = some (.array len e)) (hm : sizeT P e = some sz) (hz : zeroT P t = some zv) (hzs : zv.cells.toList = zs) (hf : fillL (fun i => some (i * sz, sz)) zs vs = some l) (hc : l.toArray = cs) : Pur P n ds E o (.agg cs) := by
 intro a w ha
 subst hc hzs
 have h1 : (ps.map fun (p : Nat × Operand) => (p.1, a.eval p.2)) = vs.toArray := by
  apply Array.ext'; rw [Array.toList_map]; exact E1 ha hp
 have h2 : (ps.map fun (i, x) => (i, a.eval x)) = vs.toArray := h1
 have h3 := G8 hf
 simp only [execOp, ho, h2]
 simp [Instr.build, ER hz, run_underlying ht, BG hm, h3]
theorem BP {P : Program} {w0 : World} {K : List Nat} {n : Nat} {E : Env} {L : List Chunk} {u u2 : Value} {fn : Func} {p q s : Tmp} {ty : TypeId} {g t : Nat} {cs : Array Value} {C : Value → List Chunk → Prop} {e : Exit} (he : e = .ret ∨ e = .normal) (hr : fn.results = #[.cell p ty, .tmp q, .tmp s])
  (hv : ev n E (.tmp p) = some (.pointer (some ⟨g, 0, none⟩))) (hq : ev n E (.tmp q) = some u) (hq2 : ev n E (.tmp s) = some u2) [h : Find L g t cs] (ht : aggT P ty = some true) (hs : sizeT P ty = some cs.size)
  (hR : ∃ L', (∀ w, Own w0 K w L → Own w0 K w L') ∧ C (.tuple #[.agg cs, u, u2]) L') : Fin w0 K n [] (bodyPost P fn (Ret w0 K C) e) E L := by
 intro a w ha hO
 obtain ⟨L', hL, hC⟩ := hR
 have hg := hO.holds _ h.mem
 have hp : a.tmps[p]?.getD undef = .pointer (some ⟨g, 0, none⟩) := by have := ha.ev hv; simpa [Act.eval] using this
 have hq' : a.tmps[q]?.getD undef = u := by have := ha.ev hq; simpa [Act.eval] using this
 have hq2' : a.tmps[s]?.getD undef = u2 := by have := ha.ev hq2; simpa [Act.eval] using this
 have h1 : a.defers = [] ∧ ∃ v, (results fn a.tmps).run P w = .ok v w ∧ Ret w0 K C (.returned v) w := by
  refine ⟨ha.defers, _, ?_, .tuple #[.agg cs, u, u2], L', rfl, hC, hL w hO⟩
  simp [results, hr, hp, hq', hq2', asAddr, ES hg ht hs]
 rcases he with rfl | rfl <;> exact h1
end
end Go.Fl

namespace Go.Fl
open Go Go.Proofs
section
variable {κ : Type} [DecidableEq κ]
def delM (x : κ) (m : List (κ × Value)) : List (κ × Value) := match findM x m 0 with
 | some (j, _) => m.eraseIdx j
 | none => m
theorem H2 {x : κ} {v : Value} : ∀ {m : List (κ × Value)} {i : Nat}, findM x m i = none → findM x (m ++ [(x, v)]) i = some (i + m.length, v)
 | [], i, h => by simp [findM]
 | (y, u) :: r, i, h => by
  unfold findM at h
  split at h
  ·cases h
  rename_i e
  rw [List.cons_append, findM, if_neg e, H2 h]
  simp; omega
theorem Q1 {x : κ} {v : Value} {m : List (κ × Value)} (h : lkM m x = none) : delM x (putM x v m) = m := by
 have h1 : findM x m 0 = none := by simpa [lkM] using h
 rw [Fr h1, delM, H2 h1]
 dsimp only
 rw [Nat.zero_add, List.eraseIdx_append_of_length_le (Nat.le_refl _)]
 simp
variable {P : Program} {w0 w : World} {K : List Nat} {n : Nat} {ds : List Deferred} {E : Env} {L : List Chunk} {o : Oper} {x y : Operand} {enc : κ → Value} {kt et : TypeId} {m : List (κ × Value)} {g : Nat}
theorem PE {t t' : TypeId} {k : κ} (i : Nat) (hi : L[i]? = some (mpc enc g m)) (hK : KeyK P kt enc) (ho : o.op = .call ⟨.builtin .delete, #[x, y], #[t, t']⟩) (hx : ev n E x = some (.map (some g))) (hy : ev n E y = some (enc k))
  (ht : P.underlying t = some (.map kt et)) : Gen P w0 K n ds E L o (fun v M => M = L.set i (mpc enc g (delM k m))) := by
 intro a w ha hw
 obtain ⟨es, clock, h1, h2, h3, h4⟩ := D3 i hi hw
 have hg : (getObj g).run P w = .ok (.map es clock) w := by simp [getObj, Sem.run, h1]
 have hf := hK.find k es.toList m w h2
 have hc := hK.chk es.isEmpty k w
 have hlen : es.toList.length = m.length := by have := congrArg List.length h2; simpa using this
 have hrun : ∀ ob : Obj, (setObj g ob).run P w = .ok () { w with heap := w.heap.setIfInBounds g ob } := fun ob => by simp [setObj, Sem.run, h1]
 have hfin : ∀ es' : Array MapEntry, (∀ v' w', (Builtin.delete_ #[t, t'] o.type #[.map (some g), enc k]).run P w = .ok v' w' → (execOp a.eval o).run P w = .ok (.value v') w') := fun _ v' w' hr => by
  simp [execOp, ho, resolve, ha.ev hx, ha.ev hy, invoke, builtin, hr]
 cases hfm : findM k m 0 with
 | none =>
  have hr : (Builtin.delete_ #[t, t'] o.type #[.map (some g), enc k]).run P w = .ok (.tuple #[]) { w with heap := w.heap.setIfInBounds g (.map es clock) } := by
   simp [Builtin.delete_, run_underlying ht, hg, hc, hf, hfm, hrun]
  refine RunsTo.value (hfin #[] _ _ hr) ⟨_, rfl, ?_⟩
  refine FI (ob := .map es clock) rfl rfl hw hi fun w' hw' => ⟨_, _, hw', ?_, h3, h4⟩
  rw [delM, hfm]; exact h2
 | some p =>
  obtain ⟨j, v0⟩ := p
  have hr : (Builtin.delete_ #[t, t'] o.type #[.map (some g), enc k]).run P w = .ok (.tuple #[]) { w with heap := w.heap.setIfInBounds g (.map (es.eraseIdxIfInBounds j) clock) } := by
   simp [Builtin.delete_, run_underlying ht, hg, hc, hf, hfm, hrun]
  have hel : (es.eraseIdxIfInBounds j).toList = es.toList.eraseIdx j := by simp
  refine RunsTo.value (hfin #[] _ _ hr) ⟨_, rfl, ?_⟩
  refine FI (ob := .map (es.eraseIdxIfInBounds j) clock) rfl rfl hw hi fun w' hw' => ⟨_, _, hw', ?_, ?_, fun e he => ?_⟩
  ·rw [hel, delM, hfm, ChangeMaps.map_eraseIdx, h2, ChangeMaps.map_eraseIdx]
  ·rw [hel, ChangeMaps.map_eraseIdx]
   exact h3.sublist (List.eraseIdx_sublist _ _)
  rw [hel] at he
  exact h4 e (List.mem_of_mem_eraseIdx he)
end
/-- An edge of these two ends. -/
def nrm (p : Pr) : Pr := (min p.1 p.2, max p.1 p.2)
structure MakR (n : Int) (ps es : List Pr) : Prop where
 lo : 0 ≤ n
 hi : n ≤ 1048576
 rng : ∀ p, p ∈ ps → 0 ≤ (nrm p).1 ∧ (nrm p).2 < n
 up : es.Pairwise Lex
 mem : ∀ x, x ∈ es ↔ ∃ p, p ∈ ps ∧ nrm p = x ∧ x.1 ≠ x.2
 few : es.length ≤ 4194304
theorem Oe {es : List Pr} (h : es.Pairwise Lex) : es.Nodup := h.imp fun {a b} hl e => by subst e; unfold Lex at hl; omega
theorem GB : ∀ {a b : List Pr}, a.Pairwise Lex → b.Pairwise Lex → (∀ x, x ∈ a ↔ x ∈ b) → a = b
 | [], [], _, _, _ => rfl
 | [], y :: s, _, _, h => by have := (h y).2 (by simp); simp at this
 | x :: r, [], _, _, h => by have := (h x).1 (by simp); simp at this
 | x :: r, y :: s, h1, h2, h => by
  rw [List.pairwise_cons] at h1 h2
  have hxy : x = y := by
   rcases List.mem_cons.1 ((h x).1 (by simp)) with e | e
   ·exact e
   rcases List.mem_cons.1 ((h y).2 (by simp)) with e' | e'
   ·exact e'.symm
   have a1 := h2.1 x e
   have a2 := h1.1 y e'
   unfold Lex at a1 a2; omega
  subst hxy
  congr 1
  refine GB h1.2 h2.2 fun z => ?_
  constructor
  ·intro hz
   rcases List.mem_cons.1 ((h z).1 (by simp [hz])) with e | e
   ·subst e; have := h1.1 z hz; unfold Lex at this; omega
   exact e
  intro hz
  rcases List.mem_cons.1 ((h z).2 (by simp [hz])) with e | e
  ·subst e; have := h2.1 z hz; unfold Lex at this; omega
  exact e
theorem MakR.uniq {n : Int} {ps es es' : List Pr} (h : MakR n ps es) (h' : MakR n ps es') : es = es' := GB h.up h'.up fun x => (h.mem x).trans (h'.mem x).symm
theorem Pn {n : Int} (hn : n ≤ 1048576) : ∀ {es : List Pr}, (∀ e, e ∈ es → 0 ≤ e.1 ∧ e.1 ≤ e.2 ∧ e.2 < n) → ∃ bs : List BPr, bs.map (·.1) = es
 | [], _ => ⟨[], rfl⟩
 | e :: r, h => by
  obtain ⟨bs, hb⟩ := Pn hn (es := r) fun x hx => h x (by simp [hx])
  have h1 := h e (by simp)
  exact ⟨⟨e, by omega, by omega⟩ :: bs, by simp [hb]⟩
theorem KC {v : Value} {acc : List Pr} {w : World} (hb : ∃ bs : List BPr, bs.map (·.1) = acc) (hO : Own w (idsOf [slc v 43 2 (prs acc)]) w [slc v 43 2 (prs acc)]) (hl : acc.length ≤ 1000000000) :
  Calls Tryz.prog 74 #[v, .func (.func 75) #[] #[]] w (Ret w (idsOf [slc v 43 2 (prs acc)]) fun r M => ∃ fs : List Pr, M = [slc v 43 2 (prs fs)] ∧ fs.Perm acc ∧ fs.Pairwise fun a b => ¬ Lex b a) := by
 obtain ⟨bs, rfl⟩ := hb
 refine Calls.mono (KD hO (by simpa using hl)) ?_
 rintro e w' ⟨r, L', rfl, ⟨fs, rfl, h1, h2⟩, hO'⟩
 exact ⟨_, _, rfl, ⟨fs.map (·.1), rfl, h1.map _, by rw [List.pairwise_map]; exact h2⟩, hO'⟩
theorem M9 {α : Type} : ∀ {l : List α} {j : Nat} {x : α}, l[j]? = some x → (x :: l.eraseIdx j).Perm l
 | [], j, x, h => by simp at h
 | a :: r, 0, x, h => by simp at h; subst h; exact List.Perm.refl _
 | a :: r, j + 1, x, h => by
  have ih := M9 (l := r) (j := j) (x := x) (by simpa using h)
  exact (List.Perm.swap _ _ _).trans (ih.cons a)
end Go.Fl

namespace Go.Fl
open Go
abbrev byc (l : List UInt8) : List Value := Lib.byteCells l
theorem Hb (a b : List UInt8) : byc (a ++ b) = byc a ++ byc b := by simp [byc, Lib.byteCells]
@[simp] theorem byc_len (l : List UInt8) : (byc l).length = l.length := Lib.byteCells_length l
theorem DD (a : List UInt8) : ∀ u, u ∈ byc a → u.oneCell' = true := by
 intro u hu
 simp [byc, Lib.byteCells] at hu
 obtain ⟨x, _, rfl⟩ := hu; rfl
theorem NE {l : List UInt8} {i : Nat} {b : UInt8} (h : l[i]? = some b) : (byc l)[i]? = some (.int .u8 b.toNat) := by simp [byc, Lib.byteCells, h]
section
variable {P : Program} {w0 w : World} {K : List Nat} {n : Nat} {ds : List Deferred} {E : Env} {L F : List Chunk} {o : Oper} {x y z : Operand} {v u : Value}
theorem Fu (l : List UInt8) : Lib.strCells ⟨l.toArray⟩ = byc l := rfl
theorem B7 (l : List UInt8) : (⟨l.toArray⟩ : ByteArray).size = l.length := by simp [ByteArray.size]
/-- append of a string's bytes to bytes of ours. -/
theorem CK {t u e : Nat} {bs : List Value} {l : List UInt8} (ho : o.op = .call ⟨.builtin .append, #[x, y], #[t, u]⟩) (hx : ev n E x = some v) (hy : ev n E y = some (str l))
  (ht : P.underlying t = some (.slice e)) (hu : P.underlying u = some .string) (hm : sizeT P e = some 1) (hb : bytesT P e = some 1) (hz : zeroT P e = some (.int .u8 0))
  (hown : ∀ w, Own w0 K w L → Own w0 K w (slc v e 1 bs :: F)) (hfit : bs.length + l.length ≤ 140737488355328) : Gen P w0 K n ds E L o (fun v' M => M = slc v' e 1 (bs ++ byc l) :: F) := by
 intro a w ha hw
 obtain ⟨i, hi, e1, e2, e3⟩ := FN hm hb hz
 have hw' := hown w hw
 have hlen : (bs ++ byc l).length = (bs.length + l.length) * 1 := by rw [List.length_append, byc_len, Nat.mul_one]
 have hF : Own w0 K w F := hw'.sub (TG ..)
 have hrun : ∀ v' w1, (Builtin.append_ #[t, u] o.type #[v, str l]).run P w = .ok v' w1 → Own w0 K w1 (slc v' e 1 (bs ++ byc l) :: F) →
   RunsTo P (execOp a.eval o) w (fun v w' => ∃ L', L' = slc v e 1 (bs ++ byc l) :: F ∧ Own w0 K w' L') := by
  intro v' w1 hr hO
  unfold RunsTo
  have : (execOp a.eval o).run P w = .ok (.value v') w1 := by
   simp [execOp, ho, resolve, ha.ev hx, ha.ev hy, invoke, builtin, hr]
  rw [this]
  exact ⟨_, rfl, hO⟩
 rcases B9 hw' with ⟨rfl, rfl, _⟩ | ⟨g, len, cap, sp, rfl, h1, h2, h3, h4, hO⟩
 ·by_cases h0 : l.length = 0
  ·have hl0 : l = [] := TO h0
   subst hl0
   refine hrun (.slice none 0 0) w ?_ hw'
   simp [Builtin.append_, run_underlying ht, run_underlying hu, sizeOf, typeInfo, hi, Builtin.lenOf, Builtin.firstCells, str, storeCells]
   rw [if_pos (show (⟨#[]⟩ : ByteArray) = ByteArray.empty from rfl)]; rfl
  have hr := run_append_nil_string (P := P) w t u o.type e i (.int .u8 0) ht hu hi e3 ⟨l.toArray⟩ (by rw [B7]; omega) (by rw [B7]; simp at hfit; omega) (by rw [B7, e2]; simp at hfit; omega)
  rw [B7] at hr
  refine hrun _ _ hr ?_
  have hA := (hF.drew).alloc e ((⟨l.toArray⟩ : ByteArray).data.map (fun b => Value.int .u8 b.toNat) ++ Builtin.zeroCells (Value.int .u8 0).cells (grownCap w l.length 0 e - l.length))
  have hge := grownCap_ge w l.length 0 e
  have hle := grownCap_le_maxLen w l.length 0 e (by simp only [maxLen]; simp at hfit; omega)
  refine BZ (vs := [] ++ byc l) (m := 1) (len := l.length) (by simp) (by decide) hge (by simp only [maxLen] at hle; omega) ?_ ?_ hA
  ·simp [size_zeroCells, Value.cells]; omega
  simp [byc, Lib.byteCells]
 rw [Nat.mul_one] at h1
 subst h1
 have hg := hO.holds _ (TI ..)
 by_cases hroom : bs.length + l.length ≤ cap
 ·have hr := Lib.run_append_room_string (P := P) w t u o.type e i ht hu hi e1 g bs.length cap (bs ++ sp).toArray hg ⟨l.toArray⟩ (by rw [B7]; omega) (by rw [B7]; simp at h4 ⊢; omega)
  rw [B7] at hr
  refine hrun _ _ hr ?_
  have hS := EJ w g (bs ++ sp).toArray ((bs ++ sp).toArray.toList.take bs.length ++ Lib.strCells ⟨l.toArray⟩ ++ (bs ++ sp).toArray.toList.drop (bs.length + l.length)).toArray e hg
  have hO2 : Own w0 K _ (blk g e _ :: F) := Own.frame (Lc := [blk g e (bs ++ sp).toArray]) hO hS (fun k hk => by simp [blk] at hk ⊢; exact hk)
  refine BZ hlen (by decide) hroom h3 ?_ ?_ hO2
  ·simp [Lib.strCells_length, B7] at h4 ⊢; omega
  simp only [List.toList_toArray, List.take_left' rfl, Fu, ← hlen]
 have hr := Lib.run_append_grow_string (P := P) w t u o.type e i (.int .u8 0) ht hu hi e3 ⟨g, 0, none⟩ bs.length cap bs (by rw [e1, Nat.mul_one])
  (by
   intro j q hj
   rw [AC, cell_of_row w g _ _ e (0, 0) hg]
   have hjl := (TA.1 hj).1
   simpa [TK hjl] using hj) ⟨l.toArray⟩ (by rw [B7]; omega) (by rw [B7]; omega) (by rw [B7]; exact growslice_fits (by omega) (by rw [e2]; omega))
 rw [B7] at hr
 refine hrun _ _ hr ?_
 have hA := (hF.drew).alloc e (bs.toArray ++ (Lib.strCells ⟨l.toArray⟩).toArray ++ Builtin.zeroCells (Value.int .u8 0).cells (grownCap w (bs.length + l.length) cap e - (bs.length + l.length)))
 have hge := grownCap_ge w (bs.length + l.length) cap e
 have hle := grownCap_le_maxLen w (bs.length + l.length) cap e (by simp only [maxLen]; omega)
 refine BZ hlen (by decide) hge (by simp only [maxLen] at hle; omega) ?_ ?_ hA
 ·simp [size_zeroCells, Value.cells, Lib.strCells_length, B7]; omega
 simp only [Fu, Array.toList_append, List.toList_toArray]
 rw [← hlen]
 exact List.take_left
/-- Bytes, seen as a string. -/
theorem Ev {src dst e len cap : Nat} {ad : Addr} {l : List UInt8} (ho : o.op = .convert src dst x) (hx : ev n E x = some (.slice (some ad) len cap)) (hl : l.length = len) (hs : P.underlying src = some (.slice e)) (he : P.underlying e = some (.int .u8)) (hd : P.underlying dst = some .string)
  (h : Hass w0 K L ad (byc l)) : Val P w0 K n ds E L o (str l) := by
 intro a w ha hw
 subst hl
 have := run_convert_bytes_back (P := P) w src dst e ad cap l hs he hd (fun j hj => h w hw j _ (NE (Tz hj)))
 simp [execOp, ho, ha.ev hx, this, str]
theorem N1 {src dst : Nat} {i : Int} (ho : o.op = .convert src dst x) (hx : ev n E x = some (.int .i64 i)) (hs : P.underlying src = some (.int .i64)) (hd : P.underlying dst = some (.int .u8)) (h0 : 0 ≤ i) (h1 : i < 256) :
  Pur P n ds E o (.int .u8 i) := by
 intro a w ha
 have hk : P.intKind dst = .u8 := by simp [Program.intKind, hd]
 have := run_convert_int (P := P) w src dst .i64 i (by rw [hs]; rfl) (by rw [hk]; exact hd)
 rw [hk] at this
 have hw : IntKind.u8.wrap i = i := by
  unfold IntKind.wrap
  simp [IntKind.bits, IntKind.signed]
  omega
 rw [hw] at this
 simp [execOp, ho, ha.ev hx, this]
theorem BB {i t l c : Nat} {ad : Addr} {vs : List Value} (hi : L[i]? = some (slc (.slice (some ad) l c) t 1 vs)) : Hass w0 K L ad vs := by
 intro w hw j u hj
 obtain ⟨A, len, cap, e, _, hr, _⟩ := BW (hw.perm (AO hi).symm)
 cases e
 obtain ⟨ad', e, hc⟩ := hr j u hj
 cases e; exact hc
end
theorem Px : Lib.join [] [32] = [] := rfl
theorem I7 : ∀ (xs : List (List UInt8)) (x : List UInt8), Lib.join (xs ++ [x]) [32] = if xs = [] then x else Lib.join xs [32] ++ [32] ++ x
 | [], x => by simp [Lib.join, List.intercalate]
 | [y], x => by simp [Lib.join, List.intercalate, List.intersperse]
 | y :: z :: r, x => by
  have ih := I7 (z :: r) x
  have e1 : Lib.join (y :: z :: r ++ [x]) [32] = y ++ [32] ++ Lib.join (z :: r ++ [x]) [32] := by simp [Lib.join, List.intercalate, List.intersperse]
  have e2 : Lib.join (y :: z :: r) [32] = y ++ [32] ++ Lib.join (z :: r) [32] := by simp [Lib.join, List.intercalate, List.intersperse]
  rw [e1, ih, e2]
  simp
theorem Lr {B : Nat} : ∀ {L : List (List UInt8)}, (∀ l, l ∈ L → l.length ≤ B) → L.flatten.length ≤ L.length * B
 | [], _ => by simp
 | l :: r, h => by
  have := Lr (L := r) fun x hx => h x (by simp [hx])
  have h1 := h l (by simp)
  simp only [List.flatten_cons, List.length_append, List.length_cons, Nat.succ_mul]
  omega
end Go.Fl

namespace Go.Fl
open Go
/-- A slice of bytes that reads so. -/
def ByV (w : World) (v : Value) (bs : List UInt8) : Prop :=
 ∃ A cap, v = .slice A bs.length cap ∧ Rd w A (byc bs) ∧ bs.length ≤ cap ∧ cap ≤ 9223372036854775807
section
variable {w0 w : World} {K : List Nat} {L : List Chunk} {v : Value} {bs : List UInt8}
theorem ByV.keepK (h : ByV w0 v bs) (hk : ∀ ad l c, v = .slice (some ad) l c → ad.block ∉ K) (hw : Own w0 K w L) : ByV w v bs := by
 obtain ⟨A, cap, rfl, hr, h1, h2⟩ := h
 exact ⟨A, cap, rfl, hr.keep (fun ad e => hk ad _ _ (by rw [e])) hw, h1, h2⟩
theorem ByV.keep0 (h : ByV w0 v bs) (hw : Own w0 [] w L) : ByV w v bs := h.keepK (fun _ _ _ _ => by simp) hw
theorem Rd.byte {A : Option Addr} {i : Nat} {x : UInt8} (h : Rd w0 A (byc bs)) (hi : bs[i]? = some x) : ∃ ad, A = some ad ∧ w0.cell? (ad.add i) = some (.int .u8 x.toNat) := h _ _ (NE hi)
theorem ByV.at (h : ByV w0 v bs) {i : Nat} {x : UInt8} (hi : bs[i]? = some x) : ∃ ad cap, v = .slice (some ad) bs.length cap ∧ w0.cell? (ad.add i) = some (.int .u8 x.toNat) := by
 obtain ⟨A, cap, rfl, hr, _⟩ := h
 obtain ⟨ad, rfl, hc⟩ := hr.byte hi
 exact ⟨ad, cap, rfl, hc⟩
theorem E2 {t : Nat} (hw : Own w0 K w L) (i : Nat) (h : L[i]? = some (slc v t 1 (byc bs))) : ByV w v bs := by
 have hp := AO h
 obtain ⟨A, len, cap, rfl, h1, hr, h2, h3⟩ := BW (hw.perm hp.symm)
 simp at h1; subst h1
 exact ⟨A, cap, rfl, hr, h2, h3⟩
end
/-- Bytes that no block of K holds. -/
def ByO (v : Value) (bs : List UInt8) (K : List Nat) : Prop := bs ≠ [] → ∀ ad l c, v = .slice (some ad) l c → ad.block ∉ K
section
variable {w0 w : World} {K : List Nat} {L : List Chunk} {v : Value} {bs : List UInt8}
theorem ByV.keep (h : ByV w0 v bs) (ho : ByO v bs K) (hw : Own w0 K w L) : ByV w v bs := by
 by_cases he : bs = []
 ·subst he
  obtain ⟨A, cap, rfl, hr, h1, h2⟩ := h
  exact ⟨A, cap, rfl, fun j u hj => by simp [byc, Lib.byteCells] at hj, h1, h2⟩
 exact h.keepK (ho he) hw
theorem ByO.step (h : ByV w0 v bs) (ho : ByO v bs K) (hw : Own w0 K w L) : ByO v bs (idsOf L) := by
 intro he ad l c hva hin
 obtain ⟨A, cap, rfl, hr, h1, h2⟩ := h
 cases hva
 obtain ⟨e, he0⟩ : ∃ e, bs[0]? = some e := ⟨_, Tz (List.length_pos_iff.2 he)⟩
 obtain ⟨ad', ha, hc⟩ := hr.byte he0
 cases ha
 have hlt := World.block_lt_of_cell? w0 _ hc
 have hb : (ad.add 0).block = ad.block := by unfold Addr.add; split <;> rfl
 rw [hb] at hlt
 rcases hw.fresh _ hin with h5 | h5
 ·exact ho he ad _ _ rfl h5
 omega
theorem ByV.has {ad : Addr} {l c i : Nat} {x : UInt8} (h : ByV w0 (.slice (some ad) l c) bs) (ho : ByO (.slice (some ad) l c) bs K) (hi : bs[i]? = some x) : Has w0 K L (ad.add i) (.int .u8 x.toNat) := by
 intro w hw
 obtain ⟨ad', cap, e, hc⟩ := (h.keep ho hw).at hi
 cases e; exact hc
theorem ByV.len (h : ByV w0 v bs) : ∃ A c, v = .slice A bs.length c := by
 obtain ⟨A, c, e, _⟩ := h; exact ⟨A, c, e⟩
end
structure Tk where
 kd : Int
 fr : Int
 en : Int
 nu : Int
def tks : List Tk → List Value
 | [] => []
 | t :: r => .int .i64 t.kd :: .int .i64 t.fr :: .int .i64 t.en :: .int .i64 t.nu :: tks r
@[simp] theorem tks_length (l : List Tk) : (tks l).length = l.length * 4 := by
 induction l with
 | nil => rfl
 | cons e r ih => simp [tks, ih, Nat.succ_mul]
theorem Hh (a b : List Tk) : tks (a ++ b) = tks a ++ tks b := by
 induction a with
 | nil => rfl
 | cons e r ih => simp [tks, ih]
theorem Jt : ∀ {l : List Tk} {i : Nat} {t : Tk}, l[i]? = some t → (tks l)[i * 4]? = some (.int .i64 t.kd) ∧ (tks l)[i * 4 + 1]? = some (.int .i64 t.fr) ∧ (tks l)[i * 4 + 2]? = some (.int .i64 t.en) ∧ (tks l)[i * 4 + 3]? = some (.int .i64 t.nu)
 | [], i, e, h => by simp at h
 | x :: r, 0, e, h => by simp at h; subst h; simp [tks]
 | x :: r, i + 1, e, h => by
  simp at h
  have := Jt h
  rw [Nat.succ_mul]
  exact ⟨by simpa [tks] using this.1, by simpa [tks] using this.2.1, by simpa [tks] using this.2.2.1, by simpa [tks] using this.2.2.2⟩
def isDig (b : UInt8) : Bool := decide (48 ≤ b.toNat) && decide (b.toNat ≤ 57)
/-- How many digits stand ahead. -/
def digs : List UInt8 → Nat
 | [] => 0
 | b :: r => if isDig b then digs r + 1 else 0
def decF (l : List UInt8) : Int := l.foldl (fun n b => 10 * n + ((b.toNat : Int) - 48)) 0
theorem Jh (l : List UInt8) (b : UInt8) : decF (l ++ [b]) = 10 * decF l + ((b.toNat : Int) - 48) := by simp [decF]
/-- What a scan answers: the tokens, or the place and the number of what is wrong. -/
inductive ScA where
 | ok (l : List Tk)
 | bad (at' err : Int)
def scanF (at' : Nat) (l : List UInt8) (acc : List Tk) : ScA :=
 match l with
 | [] => .ok (acc ++ [⟨3, at', at', 0⟩])
 | c :: r =>
  if isDig c then
   if 9 < digs (c :: r) ∨ (1 < digs (c :: r) ∧ c.toNat = 48) then .bad at' 12
   else scanF (at' + (digs r + 1)) (r.drop (digs r)) (acc ++ [⟨1, at', (at' + (digs r + 1) : Nat), decF ((c :: r).take (digs (c :: r)))⟩])
  else if c.toNat = 10 then scanF (at' + 1) r (acc ++ [⟨2, at', (at' + 1 : Nat), 0⟩])
  else if c.toNat = 32 ∨ c.toNat = 9 ∨ c.toNat = 13 then scanF (at' + 1) r acc
  else .bad at' 11
termination_by l.length
decreasing_by all_goals simp <;> omega
def scanA (bs : List UInt8) : ScA := if 33554432 < bs.length then .bad 33554432 10 else scanF 0 bs []
theorem Jf {bs : List UInt8} {i : Nat} {c : UInt8} (h : bs[i]? = some c) (hd : isDig c = true) : digs (bs.drop i) = digs (bs.drop (i + 1)) + 1 := by
 have hl := (TA.1 h).1
 rw [List.drop_eq_getElem_cons hl]
 have e : bs[i] = c := (TA.1 h).2
 rw [e]; simp [digs, hd]
theorem LB {bs : List UInt8} {i : Nat} (h : ∀ c, bs[i]? = some c → isDig c = false) : digs (bs.drop i) = 0 := by
 by_cases hl : i < bs.length
 ·rw [List.drop_eq_getElem_cons hl]
  have := h _ (Tz hl)
  simp [digs, this]
 rw [List.drop_eq_nil_of_le (by omega)]; rfl
/-- digits: from i to j all are. -/
theorem H6 {bs : List UInt8} : ∀ (k i : Nat), (∀ j, i ≤ j → j < i + k → ∃ c, bs[j]? = some c ∧ isDig c = true) → digs (bs.drop i) = k + digs (bs.drop (i + k))
 | 0, i, h => by simp
 | k + 1, i, h => by
  obtain ⟨c, h1, h2⟩ := h i (Nat.le_refl _) (by omega)
  rw [Jf h1 h2, H6 k (i + 1) (fun j h3 h4 => h j (by omega) (by omega)), show i + 1 + k = i + (k + 1) by omega]
  omega
theorem NO {bs : List UInt8} {i : Nat} {acc : List Tk} (h : bs.length ≤ i) (hi : i ≤ bs.length) : scanF i (bs.drop i) acc = .ok (acc ++ [⟨3, i, i, 0⟩]) := by
 rw [List.drop_eq_nil_of_le h]; simp [scanF]
theorem IP {bs : List UInt8} {i k : Nat} {c : UInt8} {acc : List Tk} (h : bs[i]? = some c) (hd : isDig c = true) (hk : digs (bs.drop i) = k) (h9 : k ≤ 9) (h0 : ¬(1 < k ∧ c.toNat = 48)) :
  scanF i (bs.drop i) acc = scanF (i + k) (bs.drop (i + k)) (acc ++ [⟨1, i, (i + k : Nat), decF ((bs.drop i).take k)⟩]) := by
 have hl := (TA.1 h).1
 have e : bs[i] = c := (TA.1 h).2
 have hk' := Jf h hd
 have e2 : bs.drop i = c :: bs.drop (i + 1) := by rw [List.drop_eq_getElem_cons hl, e]
 have e3 : digs (bs.drop (i + 1)) + 1 = k := by omega
 have e4 : digs (c :: bs.drop (i + 1)) = k := by rw [← e2]; exact hk
 have e5 : (bs.drop (i + 1)).drop (digs (bs.drop (i + 1))) = bs.drop (i + k) := by rw [List.drop_drop]; congr 1; omega
 rw [e2, scanF, if_pos hd, e4, if_neg (fun h1 => h1.elim (fun h => by omega) h0), e5, e3]
theorem Fy {bs : List UInt8} {i k : Nat} {c : UInt8} {acc : List Tk} (h : bs[i]? = some c) (hd : isDig c = true) (hk : digs (bs.drop i) = k) (h9 : 9 < k ∨ (1 < k ∧ c.toNat = 48)) :
  scanF i (bs.drop i) acc = .bad i 12 := by
 have hl := (TA.1 h).1
 have e : bs[i] = c := (TA.1 h).2
 have e2 : bs.drop i = c :: bs.drop (i + 1) := by rw [List.drop_eq_getElem_cons hl, e]
 have e4 : digs (c :: bs.drop (i + 1)) = k := by rw [← e2]; exact hk
 rw [e2, scanF, if_pos hd, e4, if_pos h9]
theorem L7 {bs : List UInt8} {i : Nat} {c : UInt8} {acc : List Tk} (h : bs[i]? = some c) (hd : isDig c = false) (hc : c.toNat = 10) :
  scanF i (bs.drop i) acc = scanF (i + 1) (bs.drop (i + 1)) (acc ++ [⟨2, i, (i + 1 : Nat), 0⟩]) := by
 have hl := (TA.1 h).1
 have e : bs[i] = c := (TA.1 h).2
 rw [List.drop_eq_getElem_cons hl, e, scanF, if_neg (by simp [hd]), if_pos hc]
theorem Gc {bs : List UInt8} {i : Nat} {c : UInt8} {acc : List Tk} (h : bs[i]? = some c) (hd : isDig c = false) (hc : c.toNat ≠ 10) (h3 : c.toNat = 32 ∨ c.toNat = 9 ∨ c.toNat = 13) :
  scanF i (bs.drop i) acc = scanF (i + 1) (bs.drop (i + 1)) acc := by
 have hl := (TA.1 h).1
 have e : bs[i] = c := (TA.1 h).2
 rw [List.drop_eq_getElem_cons hl, e, scanF, if_neg (by simp [hd]), if_neg hc, if_pos h3]
theorem NP {bs : List UInt8} {i : Nat} {c : UInt8} {acc : List Tk} (h : bs[i]? = some c) (hd : isDig c = false) (hc : c.toNat ≠ 10) (h3 : ¬(c.toNat = 32 ∨ c.toNat = 9 ∨ c.toNat = 13)) :
  scanF i (bs.drop i) acc = .bad i 11 := by
 have hl := (TA.1 h).1
 have e : bs[i] = c := (TA.1 h).2
 rw [List.drop_eq_getElem_cons hl, e, scanF, if_neg (by simp [hd]), if_neg hc, if_neg h3]
section
variable {P : Program} {n : Nat} {ds : List Deferred} {E : Env} {o : Oper} {x y z : Operand} {v u : Value}
theorem Qp {i : Int} (h : 0 ≤ i ∧ i < 256) : IntKind.u8.wrap i = i := by
 unfold IntKind.wrap
 simp [IntKind.bits, IntKind.signed]
 omega
theorem O8 {t t' : TypeId} {i j : Int} (ho : o.op = .binOp .sub t x y t') (hx : ev n E x = some (.int .u8 i)) (hy : ev n E y = some (.int .u8 j))
  (hb : 0 ≤ i - j ∧ i - j < 256) : Pur P n ds E o (.int .u8 (i - j)) := C9 (r := 0) ho hx hy fun w => by simp [binOp, Op.intArith, Qp hb]
theorem HG {src dst : Nat} {i : Int} (ho : o.op = .convert src dst x) (hx : ev n E x = some (.int .u8 i)) (hs : P.underlying src = some (.int .u8)) (hd : P.underlying dst = some (.int .i64)) (h0 : 0 ≤ i) (h1 : i < 256) :
  Pur P n ds E o (.int .i64 i) := by
 intro a w ha
 have hk : P.intKind dst = .i64 := by simp [Program.intKind, hd]
 have := run_convert_int (P := P) w src dst .u8 i (by rw [hs]; rfl) (by rw [hk]; exact hd)
 rw [hk, DU (by omega)] at this
 simp [execOp, ho, ha.ev hx, this]
end
end Go.Fl

namespace Go.Fl
open Go
section
variable {P : Program} {ops : Array Oper} {w0 w : World} {K : List Nat} {n : Nat} {ds : List Deferred} {E : Env} {L F : List Chunk} {o : Oper} {x y z : Operand} {v u : Value} {Q : Exit → Act → World → Prop}
theorem DC.scope {c : Code} (h : DC P w0 K n ds (Exit.noGoto Q) c E L) : DC P w0 K n ds Q (.scope c) E L := fun a w ha hL => wp_scope_straight (h a w ha hL)
theorem DC.label {l : Nat} (h : Fin w0 K n ds (Q .normal) E L) : DC P w0 K n ds Q (.label l) E L := fun a w ha hL => wp_label (h a w ha hL)
theorem Fin.scope (h : Fin w0 K n ds (Q .normal) E L) : Fin w0 K n ds (Exit.noGoto Q .normal) E L := h
theorem Cj (h : Fin w0 K n ds (Q .ret) E L) : Fin w0 K n ds (Exit.noGoto Q .ret) E L := h
theorem Nj {ty : TypeId} {g t : Nat} {cs : Array Value} (hg : w.heap[g]? = some (.cells cs t (0, 0))) (ht : aggT P ty = some true) (hs : sizeT P ty = some cs.size) : (loadVar ty ⟨g, 0, none⟩).run P w = .ok (.agg cs) w := ES hg ht hs
theorem Cq {fn : Func} {p q : Tmp} {ty ty' : TypeId} {g t g' t' : Nat} {cs cs' : Array Value} {C : Value → List Chunk → Prop} {e : Exit} (he : e = .ret ∨ e = .normal) (hr : fn.results = #[.cell p ty, .cell q ty'])
  (hv : ev n E (.tmp p) = some (.pointer (some ⟨g, 0, none⟩))) (hv' : ev n E (.tmp q) = some (.pointer (some ⟨g', 0, none⟩))) [h : Find L g t cs] [h' : Find L g' t' cs'] (ht : aggT P ty = some true) (hs : sizeT P ty = some cs.size) (ht' : aggT P ty' = some true) (hs' : sizeT P ty' = some cs'.size)
  (hR : ∃ L', (∀ w, Own w0 K w L → Own w0 K w L') ∧ C (.tuple #[.agg cs, .agg cs']) L') : Fin w0 K n [] (bodyPost P fn (Ret w0 K C) e) E L := by
 intro a w ha hO
 obtain ⟨L', hL, hC⟩ := hR
 have hp : a.tmps.getD p undef = .pointer (some ⟨g, 0, none⟩) := by have := ha.ev hv; simpa only [Act.eval] using this
 have hq : a.tmps.getD q undef = .pointer (some ⟨g', 0, none⟩) := by have := ha.ev hv'; simpa only [Act.eval] using this
 have h1 : a.defers = [] ∧ ∃ v, (results fn a.tmps).run P w = .ok v w ∧ Ret w0 K C (.returned v) w :=
  ⟨ha.defers, _, Gd hr hp hq (Nj (hO.holds _ h.mem) ht hs) (Nj (hO.holds _ h'.mem) ht' hs'), _, L', rfl, hC, hL w hO⟩
 rcases he with rfl | rfl <;> exact h1
/-- A token out of a slice of ours. -/
theorem JT {i j t l c : Nat} {ad : Addr} {tk : List Tk} {k : Tk} (hi : L[i]? = some (slc (.slice (some ad) l c) t 4 (tks tk))) (hj : tk[j]? = some k) :
  Hass w0 K L (ad.add (j * 4)) [.int .i64 k.kd, .int .i64 k.fr, .int .i64 k.en, .int .i64 k.nu] := by
 obtain ⟨h1, h2, h3, h4⟩ := Jt hj
 intro w hw m u hm
 have hr := hw.perm (AO hi).symm
 obtain ⟨A, len, cap, e, _, hR, _⟩ := BW hr
 cases e
 have key : ∀ {q : Nat} {u : Value}, (tks tk)[j * 4 + q]? = some u → w.cell? ((ad.add (j * 4)).add q) = some u := by
  intro q u hq
  obtain ⟨ad', e, hc⟩ := hR _ _ hq
  cases e
  by_cases h0 : q = 0
  ·subst h0
   have : (ad.add (j * 4)).add 0 = ad.add (j * 4) := by simp [Addr.add]
   rw [this]; exact hc
  rw [B6 _ _ _ (by omega)]; exact hc
 match m, hm with
 | 0, hm => simp at hm; subst hm; exact key h1
 | 1, hm => simp at hm; subst hm; exact key h2
 | 2, hm => simp at hm; subst hm; exact key h3
 | 3, hm => simp at hm; subst hm; exact key h4
theorem Dp {i j t l c : Nat} {ad : Addr} {tk : List Tk} {k : Tk} (hi : L[i]? = some (slc (.slice (some ad) l c) t 4 (tks tk))) (hj : tk[j]? = some k) (q : Nat) (hq : [Value.int .i64 k.kd, .int .i64 k.fr, .int .i64 k.en, .int .i64 k.nu][q]? = some u) :
  Has w0 K L ((ad.add (j * 4)).add q) u := fun w hw => JT hi hj w hw q u hq
/-- A slice of tokens that reads so. -/
def TkV (w : World) (v : Value) (tk : List Tk) : Prop := ∃ A cap, v = .slice A tk.length cap ∧ Rd w A (tks tk) ∧ tk.length ≤ cap ∧ cap ≤ 9223372036854775807
theorem Js {t : Nat} {tk : List Tk} (hw : Own w0 K w L) (i : Nat) (h : L[i]? = some (slc v t 4 (tks tk))) : TkV w v tk := by
 obtain ⟨A, len, cap, rfl, h1, hr, h2, h3⟩ := BW (hw.perm (AO h).symm)
 simp at h1
 obtain rfl : tk.length = len := by omega
 exact ⟨A, cap, rfl, hr, h2, h3⟩
theorem Rd.tk {A : Option Addr} {tk : List Tk} {i : Nat} {k : Tk} (h : Rd w A (tks tk)) (hi : tk[i]? = some k) : ∃ ad, A = some ad ∧ ∀ (q : Nat) u, [Value.int .i64 k.kd, .int .i64 k.fr, .int .i64 k.en, .int .i64 k.nu][q]? = some u → w.cell? (ad.add (i * 4 + q)) = some u := by
 obtain ⟨h1, h2, h3, h4⟩ := Jt hi
 obtain ⟨ad, rfl, _⟩ := h _ _ h1
 refine ⟨ad, rfl, fun q u hq => ?_⟩
 have key : ∀ {q : Nat} {u : Value}, (tks tk)[i * 4 + q]? = some u → w.cell? (ad.add (i * 4 + q)) = some u := by
  intro q u hq
  obtain ⟨ad', e, hc⟩ := h _ _ hq
  cases e; exact hc
 match q, hq with
 | 0, hq => simp at hq; subst hq; exact key h1
 | 1, hq => simp at hq; subst hq; exact key h2
 | 2, hq => simp at hq; subst hq; exact key h3
 | 3, hq => simp at hq; subst hq; exact key h4
end
/-! ### lines of a graph's text -/
structure RdS where
 n : Int
 ps : List Pr
 hd : Bool
 m : Int
inductive LnA where
 | ok (s : RdS)
 | bad (c a : Int)
def lineF (s : RdS) (l : List Tk) : LnA :=
 match l with
 | [] => .bad 0 0
 | t :: r =>
  if s.hd = false then
   match r with
   | [u] => if 1048576 < t.nu then .bad 21 t.fr else if 2097152 < u.nu then .bad 22 u.fr else .ok ⟨t.nu, s.ps, true, u.nu⟩
   | _ => .bad 20 t.fr
  else if s.m ≤ (s.ps.length : Int) then .bad 26 t.fr
  else
   match r with
   | [u] => if s.n ≤ t.nu then .bad 24 t.fr else if s.n ≤ u.nu then .bad 24 u.fr else .ok ⟨s.n, s.ps ++ [(t.nu, u.nu)], true, s.m⟩
   | _ => .bad 23 t.fr
/-- The lines of the tokens that are left, l what the line has so far. -/
def feedF (s : RdS) (l : List Tk) : List Tk → LnA
 | [] => .ok s
 | t :: r =>
  if t.kd = 1 then feedF s (l ++ [t]) r
  else
   match (if l = [] then LnA.ok s else lineF s l) with
   | .bad c a => .bad c a
   | .ok s' => if t.kd = 3 then .ok s' else feedF s' [] r
inductive RawA where
 | ok (n : Int) (ps : List Pr)
 | bad (c a : Int)
def endF (k : Nat) : LnA → RawA
 | .bad c a => .bad c a
 | .ok s => if s.hd = false then .bad 20 k else if (s.ps.length : Int) < s.m then .bad 25 k else .ok s.n s.ps
def rawF (bs : List UInt8) : RawA :=
 if 16777216 < bs.length then .bad 10 16777216
 else
  match scanA bs with
  | .bad a e => .bad e a
  | .ok tk => endF bs.length (feedF ⟨0, [], false, 0⟩ [] tk)
theorem Oo {s : RdS} {l r : List Tk} {t : Tk} (h : t.kd = 1) : feedF s l (t :: r) = feedF s (l ++ [t]) r := by simp [feedF, h]
theorem Oq {s : RdS} {l r : List Tk} {t : Tk} {c a : Int} (h : t.kd ≠ 1) (hl : l ≠ []) (hb : lineF s l = .bad c a) : feedF s l (t :: r) = .bad c a := by simp [feedF, h, hl, hb]
theorem Jc {s s' : RdS} {l r : List Tk} {t : Tk} (h : t.kd ≠ 1) (hl : (l = [] ∧ s' = s) ∨ (l ≠ [] ∧ lineF s l = .ok s')) (h3 : t.kd = 3) : feedF s l (t :: r) = .ok s' := by
 rcases hl with ⟨h1, rfl⟩ | ⟨h1, h2⟩
 ·simp [feedF, h1, h3]
 simp [feedF, h1, h2, h3]
theorem Lt {s s' : RdS} {l r : List Tk} {t : Tk} (h : t.kd ≠ 1) (hl : (l = [] ∧ s' = s) ∨ (l ≠ [] ∧ lineF s l = .ok s')) (h3 : t.kd ≠ 3) : feedF s l (t :: r) = feedF s' [] r := by
 rcases hl with ⟨h1, rfl⟩ | ⟨h1, h2⟩
 ·simp [feedF, h, h1, h3]
 simp [feedF, h, h1, h2, h3]
theorem Od {s s' : RdS} {l : List Tk} (h : lineF s l = .ok s') : s'.ps.length ≤ s.ps.length + 1 := by
 unfold lineF at h
 split at h
 ·cases h
 split at h
 ·split at h
  ·split at h
   ·cases h
   split at h
   ·cases h
   cases h; simp
  cases h
 split at h
 ·cases h
 split at h
 ·split at h
  ·cases h
  split at h
  ·cases h
  cases h; simp
 cases h
theorem NN : ∀ (k : Nat) (l : List UInt8) (at' : Nat) (acc : List Tk) {a e : Int}, l.length ≤ k → scanF at' l acc = .bad a e → e ≠ 0 := by
 intro k
 induction k with
 | zero =>
  intro l at' acc a e hk h
  rw [TO (by omega : l.length = 0)] at h
  simp [scanF] at h
 | succ k ih =>
  intro l at' acc a e hk h
  match l, hk, h with
  | [], hk, h => simp [scanF] at h
  | c :: r, hk, h =>
   simp at hk
   rw [scanF] at h
   split at h
   ·split at h
    ·cases h; decide
    exact ih _ _ _ (by simp; omega) h
   split at h
   ·exact ih _ _ _ hk h
   split at h
   ·exact ih _ _ _ hk h
   cases h; decide
theorem NQ {bs : List UInt8} {a e : Int} (h : scanA bs = .bad a e) : e ≠ 0 := by
 unfold scanA at h
 split at h
 ·cases h; decide
 exact NN _ _ _ _ (Nat.le_refl _) h
section
variable {w0 w : World} {K : List Nat} {F : List Chunk}
theorem Pe {t m len cap : Nat} {A : Option Addr} {vs : List Value} (hm : 0 < m) (hw : Own w0 K w (slc (.slice A len cap) t m vs :: F)) : Own w0 K w (slc (.slice A 0 cap) t m [] :: F) := by
 rcases B9 hw with ⟨e, rfl, _⟩ | ⟨g, len', cap', sp, e, h1, h2, h3, h4, hO⟩
 ·cases e; exact hw
 cases e
 exact BZ (m := m) (by simp) hm (Nat.zero_le _) h3 (by simp at h4 ⊢; omega) (by simp) hO
theorem N3 {L : List Chunk} {t m len cap : Nat} {A : Option Addr} {vs : List Value} (i : Nat) (hi : L[i]? = some (slc (.slice A len cap) t m vs)) (hm : 0 < m) (hw : Own w0 K w L) : Own w0 K w (slc (.slice A 0 cap) t m [] :: L.eraseIdx i) :=
 Pe hm (hw.perm (AO hi).symm)
theorem OH {P : Program} {n : Nat} {ds : List Deferred} {E : Env} {L : List Chunk} {v : Value} {Q : Exit → Act → World → Prop} {c : Code} {t : Nat} {tk : List Tk} (i : Nat) (hi : L[i]? = some (slc v t 4 (tks tk))) (h : (∃ A c, v = .slice A tk.length c) → DC P w0 K n ds Q c E L) : DC P w0 K n ds Q c E L := by
 intro a w ha hw
 obtain ⟨A, cap, e, _⟩ := Js hw i hi
 exact h ⟨A, cap, e⟩ a w ha hw
theorem Gz {P : Program} {n : Nat} {ds : List Deferred} {E : Env} {L : List Chunk} {v : Value} {Q : Exit → Act → World → Prop} {c : Code} {t : Nat} {es : List Pr} (i : Nat) (hi : L[i]? = some (slc v t 2 (prs es))) (hf : es.length ≤ 8796093021952) (h : (∃ A c, v = .slice A es.length c) → DC P w0 K n ds Q c E L) : DC P w0 K n ds Q c E L := by
 intro a w ha hw
 obtain ⟨A, cap, e, _⟩ := CX hw i hi hf
 exact h ⟨A, cap, e⟩ a w ha hw
theorem DT {P : Program} {n : Nat} {ds : List Deferred} {E : Env} {L : List Chunk} {v : Value} {Q : Exit → Act → World → Prop} {c : Code} {t : Nat} {xs : List Int} (i : Nat) (hi : L[i]? = some (slc v t 1 (ints xs))) (hf : xs.length ≤ 17592186044416) (h : (∃ A c, v = .slice A xs.length c) → DC P w0 K n ds Q c E L) : DC P w0 K n ds Q c E L := by
 intro a w ha hw
 obtain ⟨A, cap, e, _⟩ := Ck hw i hi hf
 exact h ⟨A, cap, e⟩ a w ha hw
theorem MV {P : Program} {n : Nat} {ds : List Deferred} {E : Env} {L : List Chunk} {Q : Exit → Act → World → Prop} {cd : Code} {t l c : Nat} {A : Option Addr} {xs : List Int} (i : Nat) (hi : L[i]? = some (slc (.slice A l c) t 1 (ints xs))) (h : (0 < xs.length → ∃ ad, A = some ad) → DC P w0 K n ds Q cd E L) : DC P w0 K n ds Q cd E L := by
 intro a w ha hw
 refine h (fun h0 => ?_) a w ha hw
 obtain ⟨A', len, cap, e, _, hR, _⟩ := BW (hw.perm (AO hi).symm)
 cases e
 obtain ⟨ad, e, _⟩ := hR.int (Tz h0)
 exact ⟨ad, e⟩
end
end Go.Fl

namespace Go.Fl
open Go Go.Proofs
structure MkI where
 i : Nat
 m : List (Pr × Value)
structure MkJ where
 left : List (Pr × Value)
 last : Option (Pr × Value)
 v : Value
 acc : List Pr
/-- The map's keys: the edges of the pairs ahead of i. -/
def KeysR (n : Int) (ps : List Pr) (i : Nat) (m : List (Pr × Value)) : Prop :=
 (m.map (·.1)).Nodup ∧ m.length ≤ i ∧ (∀ p, p ∈ ps.take i → 0 ≤ (nrm p).1 ∧ (nrm p).2 < n) ∧ ∀ x, x ∈ m.map (·.1) ↔ ∃ p, p ∈ ps.take i ∧ nrm p = x ∧ x.1 ≠ x.2
theorem CR {ps : List Pr} {i : Nat} {p q : Pr} (hp : ps[i]? = some p) : q ∈ ps.take (i + 1) ↔ q ∈ ps.take i ∨ q = p := by
 rw [List.take_add_one, hp, List.mem_append]; simp
theorem Oi {n : Int} {ps : List Pr} {i : Nat} {m : List (Pr × Value)} {p : Pr} (h : KeysR n ps i m) (hp : ps[i]? = some p) (hr : 0 ≤ (nrm p).1 ∧ (nrm p).2 < n) (he : (nrm p).1 = (nrm p).2) : KeysR n ps (i + 1) m := by
 obtain ⟨h1, h2, h3, h4⟩ := h
 refine ⟨h1, by omega, fun q hq => ?_, fun x => ?_⟩
 ·rcases (CR hp).1 hq with h | rfl
  ·exact h3 q h
  exact hr
 rw [h4 x]
 constructor
 ·rintro ⟨q, hq, e, hne⟩; exact ⟨q, (CR hp).2 (.inl hq), e, hne⟩
 rintro ⟨q, hq, e, hne⟩
 rcases (CR hp).1 hq with h | rfl
 ·exact ⟨q, h, e, hne⟩
 rw [← e] at hne; exact absurd he hne
theorem Pu {n : Int} {ps : List Pr} {i : Nat} {m : List (Pr × Value)} {p : Pr} {u : Value} (h : KeysR n ps i m) (hp : ps[i]? = some p) (hr : 0 ≤ (nrm p).1 ∧ (nrm p).2 < n) (he : (nrm p).1 ≠ (nrm p).2) : KeysR n ps (i + 1) (putM (nrm p) u m) := by
 obtain ⟨h1, h2, h3, h4⟩ := h
 have hk := EV (nrm p) u m
 have hlen := KS (nrm p) u m
 refine ⟨HA h1, by rw [hlen]; split <;> omega, fun q hq => ?_, fun x => ?_⟩
 ·rcases (CR hp).1 hq with h | rfl
  ·exact h3 q h
  exact hr
 have hmem : x ∈ (putM (nrm p) u m).map (·.1) ↔ x ∈ m.map (·.1) ∨ x = nrm p := by
  rw [hk]
  cases hl : lkM m (nrm p) with
  | none => simp
  | some v =>
   simp only [Option.isSome_some, if_true]
   constructor
   ·exact .inl
   rintro (h | rfl)
   ·exact h
   exact List.mem_map.2 ⟨_, G4 hl, rfl⟩
 rw [hmem, h4 x]
 constructor
 ·rintro (⟨q, hq, e, hne⟩ | rfl)
  ·exact ⟨q, (CR hp).2 (.inl hq), e, hne⟩
  exact ⟨p, (CR hp).2 (.inr rfl), rfl, he⟩
 rintro ⟨q, hq, e, hne⟩
 rcases (CR hp).1 hq with h | rfl
 ·exact .inl ⟨q, h, e, hne⟩
 exact .inr e.symm
theorem Pv {n : Int} {ps : List Pr} {i : Nat} {m : List (Pr × Value)} {p : Pr} (h : KeysR n ps i m) (he : (nrm p).1 = (nrm p).2) : lkM m (nrm p) = none := by
 cases hl : lkM m (nrm p) with
 | none => rfl
 | some v =>
  obtain ⟨q, _, e, hne⟩ := (h.2.2.2 (nrm p)).1 (List.mem_map.2 ⟨_, G4 hl, rfl⟩)
  exact absurd he hne
theorem KE {n : Int} {ps : List Pr} {vp : Value} {w : World} (hg : PrV w vp ps) (hl : ps.length ≤ 33554433) :
  Calls Tryz.prog 39 #[.int .i64 n, vp] w (Ret w [] fun r M => ∃ N' A l c e es, r = .tuple #[.agg #[.int .i64 N', .slice A l c], .int .i64 e] ∧ M = [slc (.slice A l c) 43 2 (prs es)] ∧ (e = 0 → N' = n ∧ MakR n ps es) ∧ (e ≠ 0 → N' = 0 ∧ es = [] ∧ ¬ ∃ es, MakR n ps es)) := by
 obtain ⟨A, cap, rfl, hr, hlc, hcm, hle⟩ := hg
 refine Ao (K := []) (args := [_, _]) (L := []) Tryz.func39 rfl Tryz.ntmps39 rfl (Own.start _ _) ?_
 refine Zs ?_
 refine Zw (AD rfl GM rfl) fun g4 => ?_
 refine Za ?_
 refine Zx <| DC.seq <| Zs ?_
 refine Zm ?_
 refine Zc ?_
 refine Zm ?_
 refine Seq.split 14 rfl (fun k1_2 => ?_) (fun k1_2 => ?_)
 ·refine Zk ?_
  refine Zk ?_
  refine Zt ?_
  refine Zx ?_
  refine AI rfl ?_
  refine Zs ?_
  refine Zo (AA (cs := #[_, _]) rfl rfl F4 rfl rfl) ?_
  refine Zy (At (cs' := #[_, _]) rfl rfl rfl Bg rfl (TB rfl) rfl) ?_
  refine Za ?_
  refine Zx <| DC.ret <| Aa ?_
  refine Bf (cs := #[_, _]) (.inl rfl) rfl rfl rfl Bn Bg ?_
  refine ⟨[slc (.slice none 0 0) 43 2 []], fun w hw => AX (hw.sub (TH _)), 0, none, 0, 0, 2, [], rfl, rfl, by simp, fun _ => ⟨rfl, rfl, ?_⟩⟩
  rintro ⟨es, h⟩
  have h1 := h.lo
  have h2 := h.hi
  first
  | (have := of_decide_eq_true k1_2; omega)
  | (have := of_decide_eq_true c1; omega)
 refine Zm ?_
 refine Zo (Bs rfl rfl rfl) ?_
 refine Zg ?_
 refine Zx ?_
 refine Zd (fun c1 => ?_) fun c1 => ?_
 ·refine Zs ?_
  refine Zo (AA (cs := #[_, _]) rfl rfl F4 rfl rfl) ?_
  refine Zy (At (cs' := #[_, _]) rfl rfl rfl Bg rfl (TB rfl) rfl) ?_
  refine Za ?_
  refine Zx <| DC.ret <| Aa ?_
  refine Bf (cs := #[_, _]) (.inl rfl) rfl rfl rfl Bn Bg ?_
  refine ⟨[slc (.slice none 0 0) 43 2 []], fun w hw => AX (hw.sub (TH _)), 0, none, 0, 0, 2, [], rfl, rfl, by simp, fun _ => ⟨rfl, rfl, ?_⟩⟩
  rintro ⟨es, h⟩
  have h1 := h.lo
  have h2 := h.hi
  first
  | (have := of_decide_eq_true k1_2; omega)
  | (have := of_decide_eq_true c1; omega)
 refine DC.skip <| Fin.then <| Zs ?_
 refine Seq.rel rfl rfl (De (enc := encP) rfl) ?_
 rintro _ _ ⟨gm, rfl, rfl⟩
 refine Za ?_
 refine Zx <| DC.seq <| Zs ?_
 refine Zm ?_
 refine Zn Tryz.underlying37 ?_
 refine Zm ?_
 refine Zx <| DC.block ?_
 have hn0 : 0 ≤ n ∧ n ≤ 1048576 := by have h1 := of_decide_eq_false k1_2; have h2 := of_decide_eq_false c1; omega
 refine DC.loop (ι := MkI) (fun q => q.i ≤ ps.length ∧ KeysR n ps q.i q.m) (fun q => [(0, .int .i64 n), (4, .pointer (some ⟨g4, 0, none⟩)), (6, .map (some gm)), (20, .slice A ps.length cap), (21, .int .i64 ps.length), (22, .int .i64 (q.i : Nat))])
  (fun q => [mpc encP gm q.m, blk g4 24 #[.int .i64 0, (.slice none 0 0)]]) (fun q => ps.length - q.i) ⟨0, []⟩ ⟨Nat.zero_le _, by simp, Nat.le_refl _, by simp, by simp⟩ ⟨rfl, rfl, rfl, rfl, rfl, rfl, trivial⟩ (.cons 0 rfl (.cons 0 rfl .nil)) ?_
 rintro ⟨i, m⟩ ⟨hi, hK⟩
 dsimp only at hi hK ⊢
 refine Zs ?_
 refine Zc ?_
 refine Zx <| DC.seq ?_
 refine Zd (fun c5 => ?_) fun c5 => ?_
 ·have hlt : i < ps.length := by simpa using c5
  obtain ⟨p, hp⟩ : ∃ x, ps[i]? = some x := ⟨_, Tz hlt⟩
  obtain ⟨ad, rfl, cx, cy⟩ := hr.pair hp
  refine DC.skip <| Fin.then <| DC.seq <| DC.block <| Zs ?_
  refine Zo (AM (ad' := ad.add (i * 2)) rfl rfl rfl Tryz.underlying37 Kw (by omega) (by omega) rfl) ?_
  refine Zu (Ay (vs := [_, _]) rfl rfl R1 Kw rfl (Cv cx cy (by simp))) ?_
  refine Zw (AD rfl LW rfl) fun g8 => ?_
  refine Zy (At (cs' := #[_, _]) rfl rfl rfl Kw rfl (TB rfl) rfl) ?_
  refine Zx <| Zs ?_
  refine Zo (DI (ad' := ⟨g8, 0, none⟩) rfl rfl rfl Tryz.underlying35 AQ (by omega) (by omega) (AC _ _)) ?_
  refine Zl AJ ?_
  refine Zo (DI (ad' := ⟨g8, 1, none⟩) rfl rfl rfl Tryz.underlying35 AQ (by omega) (by omega) (AC _ _)) ?_
  refine Zl AJ ?_
  refine Zo (Na rfl rfl rfl) ?_
  refine Zo (DI (ad' := ⟨g8, 0, none⟩) rfl rfl rfl Tryz.underlying35 AQ (by omega) (by omega) (AC _ _)) ?_
  refine Zl AJ ?_
  refine Zo (DI (ad' := ⟨g8, 1, none⟩) rfl rfl rfl Tryz.underlying35 AQ (by omega) (by omega) (AC _ _)) ?_
  refine Zl AJ ?_
  refine Zo (Nb rfl rfl rfl) ?_
  refine Zo (AA (cs := #[_, _]) rfl rfl F3 rfl rfl) ?_
  refine Zw (AD rfl CE rfl) fun g9 => ?_
  refine Zy (At (cs' := #[_, _]) rfl rfl rfl AY rfl (TB rfl) rfl) ?_
  refine Zx <| DC.seq <| Zs ?_
  refine Zf Bb ?_
  refine Zl AJ ?_
  refine Zc ?_
  refine Zm ?_
  refine Seq.split 40 rfl (fun k8_3 => ?_) (fun k8_3 => ?_)
  ·refine Zk ?_
   iterate 3 refine Zk ?_
   refine Zt ?_
   refine Zx ?_
   refine AI rfl ?_
   refine Zs ?_
   refine Zo (AA (cs := #[_, _]) rfl rfl F4 rfl rfl) ?_
   refine Zy (At (cs' := #[_, _]) rfl rfl rfl Bg rfl (TB rfl) rfl) ?_
   refine Za ?_
   refine Zx <| DC.ret <| Aa <| Ae <| Aa <| Aa <| Ae <| Aa ?_
   refine Bf (cs := #[_, _]) (.inl rfl) rfl rfl rfl Bn Bg ?_
   refine ⟨[slc (.slice none 0 0) 43 2 []], fun w hw => AX (hw.sub (TH _)), 0, none, 0, 0, 2, [], rfl, rfl, by simp, fun _ => ⟨rfl, rfl, ?_⟩⟩
   rintro ⟨es, h⟩
   have h1 := h.rng p (TD hp)
   unfold nrm at h1
   first
   | (have := of_decide_eq_true k8_3; dsimp only at h1; omega)
   | (have := of_decide_eq_true c8; dsimp only at h1; omega)
  refine Zf Bk ?_
  refine Zl AJ ?_
  refine Zm ?_
  refine Zo (Cc rfl rfl rfl) ?_
  refine Zg ?_
  refine Zx ?_
  refine Zd (fun c8 => ?_) fun c8 => ?_
  ·refine Zs ?_
   refine Zo (AA (cs := #[_, _]) rfl rfl F4 rfl rfl) ?_
   refine Zy (At (cs' := #[_, _]) rfl rfl rfl Bg rfl (TB rfl) rfl) ?_
   refine Za ?_
   refine Zx <| DC.ret <| Aa <| Ae <| Aa <| Aa <| Ae <| Aa ?_
   refine Bf (cs := #[_, _]) (.inl rfl) rfl rfl rfl Bn Bg ?_
   refine ⟨[slc (.slice none 0 0) 43 2 []], fun w hw => AX (hw.sub (TH _)), 0, none, 0, 0, 2, [], rfl, rfl, by simp, fun _ => ⟨rfl, rfl, ?_⟩⟩
   rintro ⟨es, h⟩
   have h1 := h.rng p (TD hp)
   unfold nrm at h1
   first
   | (have := of_decide_eq_true k8_3; dsimp only at h1; omega)
   | (have := of_decide_eq_true c8; dsimp only at h1; omega)
  refine DC.skip <| Fin.then <| DC.seq ?_
  have hrng : 0 ≤ (nrm p).1 ∧ (nrm p).2 < n := by
   have h1 := of_decide_eq_false k8_3
   have h2 := of_decide_eq_false c8
   unfold nrm; dsimp only; omega
  refine DC.own (M := [mpc encP gm m, blk g9 43 #[.int .i64 (nrm p).1, .int .i64 (nrm p).2], blk g4 24 #[.int .i64 0, (.slice none 0 0)]]) (fun w hw => hw.pick (.cons 2 rfl (.cons 0 rfl (.cons 1 rfl .nil)))) ?_
  refine DC.region ?_
  refine Zm ?_
  refine Zu (Ay (vs := [_, _]) rfl rfl B3 AY rfl (Ak rfl)) ?_
  refine Zy (BX (k := nrm p) 0 rfl G5 rfl rfl rfl rfl Tryz.underlying140 rfl) ?_
  refine Zx <| DC.seq ?_
  rw [List.set_cons_zero]
  refine DC.region ?_
  refine Zf Bb ?_
  refine Zl AJ ?_
  refine Zf Bk ?_
  refine Zl AJ ?_
  refine Zo (AN rfl rfl rfl) ?_
  refine Zx ?_
  refine Zd (fun c11 => ?_) fun c11 => ?_
  ·refine DC.region ?_
   refine Zm ?_
   refine Zu (Ay (vs := [_, _]) rfl rfl B3 AY rfl (Ak rfl)) ?_
   refine Seq.gen0 rfl rfl (PE (k := nrm p) 0 rfl G5 rfl rfl rfl Tryz.underlying140) ?_
   rintro _ _ rfl
   refine Seq.nil <| Fin.inBlock <| Fin.then <| DC.region ?_
   refine Zp ?_
   refine Zm ?_
   refine Seq.nil ?_
   have he : (nrm p).1 = (nrm p).2 := of_decide_eq_true c11
   rw [List.set_cons_zero, Q1 (Pv hK he)]
   exact Ag ⟨i + 1, m⟩ (by dsimp only; omega) ⟨by dsimp only; omega, Oi hK hp hrng he⟩ ⟨rfl, rfl, rfl, rfl, rfl, rfl, trivial⟩ (.cons 0 rfl (.cons 1 rfl .nil))
  refine DC.skip <| Fin.inBlock <| Fin.then <| DC.region ?_
  refine Zp ?_
  refine Zm ?_
  refine Seq.nil ?_
  have he : (nrm p).1 ≠ (nrm p).2 := of_decide_eq_false c11
  exact Ag ⟨i + 1, putM (nrm p) (.bool true) m⟩ (by dsimp only; omega) ⟨by dsimp only; omega, Pu hK hp hrng he⟩ ⟨rfl, rfl, rfl, rfl, rfl, rfl, trivial⟩ (.cons 0 rfl (.cons 1 rfl .nil))
 refine DC.exit <| Ad <| Ad <| Ah <| Fin.then <| DC.seq <| Zs ?_
 refine Zm ?_
 refine Zu (Ks (enc := encP) (m := m) 0 rfl rfl rfl Tryz.underlying140) ?_
 refine Zo (Bs rfl rfl rfl) ?_
 refine Zx ?_
 refine Zd (fun c14 => ?_) fun c14 => ?_
 ·have hmany : 4194304 < m.length := by have := of_decide_eq_true c14; omega
  refine Zs ?_
  refine Zo (AA (cs := #[_, _]) rfl rfl F4 rfl rfl) ?_
  refine Zy (At (cs' := #[_, _]) rfl rfl rfl Bg rfl (TB rfl) rfl) ?_
  refine Za ?_
  refine Zx <| DC.ret <| Aa ?_
  refine Bf (cs := #[_, _]) (.inl rfl) rfl rfl rfl Bn Bg ?_
  refine ⟨[slc (.slice none 0 0) 43 2 []], fun w hw => AX (hw.sub (TH _)), 0, none, 0, 0, 141, [], rfl, rfl, by simp, fun _ => ⟨rfl, rfl, ?_⟩⟩
  rintro ⟨es, h⟩
  have hie : i = ps.length := by have := of_decide_eq_false c5; omega
  have hp := (List.perm_ext_iff_of_nodup hK.1 (Oe h.up)).2 fun x => by rw [hK.2.2.2 x, h.mem x, hie, List.take_length]
  have := hp.length_eq
  have := h.few
  simp at *
  omega
 refine DC.skip <| Fin.then <| Zs ?_
 refine Zm ?_
 refine Zo (AA (cs := #[_, _]) rfl rfl F4 rfl rfl) ?_
 refine Zw (AD rfl GM rfl) fun g10 => ?_
 refine Zy (At (cs' := #[_, _]) rfl rfl rfl Bg rfl (TB rfl) rfl) ?_
 refine Zx <| DC.seq <| DC.seq ?_
 have hfew : m.length ≤ 4194304 := by have := of_decide_eq_false c14; omega
 have hie : i = ps.length := by have := of_decide_eq_false c5; omega
 subst hie
 rw [KeysR, List.take_length] at hK
 obtain ⟨hKn, hKl, hKr, hKm⟩ := hK
 refine DC.own (M := [mpc encP gm m, blk g10 24 #[.int .i64 n, (.slice none 0 0)], blk g4 24 #[.int .i64 0, (.slice none 0 0)]]) (fun w hw => hw.perm (List.Perm.swap _ _ _)) ?_
 refine DC.region ?_
 refine Zm ?_
 refine Seq.gen rfl rfl (Nu (enc := encP) (m := m) 0 rfl rfl rfl Tryz.underlying140) ?_
 rintro _ _ ⟨gi, rfl, rfl⟩
 rw [List.set_cons_zero]
 refine Zx <| DC.block ?_
 refine DC.own (fun w hw => AX (t := 43) (m := 2) hw) ?_
 refine DC.loop (ι := MkJ) (fun q => (q.acc ++ q.left.map (·.1)).Perm (m.map (·.1))) (fun q => [(4, .pointer (some ⟨g4, 0, none⟩)), (10, .pointer (some ⟨g10, 0, none⟩)), (64, .pointer (some ⟨gi, 0, none⟩))])
  (fun q => [mit encP gm gi m q.left q.last, blk g10 24 #[.int .i64 n, q.v], slc q.v 43 2 (prs q.acc), blk g4 24 #[.int .i64 0, (.slice none 0 0)]]) (fun q => q.left.length) ⟨m, none, (.slice none 0 0), []⟩ (List.Perm.refl _) ⟨rfl, rfl, rfl, trivial⟩ (.cons 1 rfl (.cons 1 rfl (.cons 0 rfl (.cons 0 rfl .nil)))) ?_
 rintro ⟨left, last, v, acc⟩ hperm
 dsimp only at hperm ⊢
 have hal : acc.length + left.length = m.length := by have := hperm.length_eq; simp at this; exact this
 refine Gz (i := 2) (v := v) rfl (by omega) ?_
 rintro ⟨Av, cv, rfl⟩
 refine Zs ?_
 refine Seq.gen rfl rfl (PD (enc := encP) 0 rfl rfl rfl) ?_
 intro v65 L65 hC65
 obtain ⟨b, rest, rfl, hcase⟩ : ∃ b rest, v65 = .tuple ⟨.bool b :: rest⟩ ∧ ((b = false ∧ left = [] ∧ L65 = [mit encP gm gi m left last, blk g10 24 #[.int .i64 n, .slice Av acc.length cv], slc (.slice Av acc.length cv) 43 2 (prs acc), blk g4 24 #[.int .i64 0, (.slice none 0 0)]]) ∨ (b = true ∧ ∃ j p, left[j]? = some p ∧ L65 = [mit encP gm gi m (left.eraseIdx j) (some p), blk g10 24 #[.int .i64 n, .slice Av acc.length cv], slc (.slice Av acc.length cv) 43 2 (prs acc), blk g4 24 #[.int .i64 0, (.slice none 0 0)]])) := by
  rcases hC65 with ⟨rfl, h1, h2⟩ | ⟨j, p, h1, rfl, h2⟩
  ·exact ⟨false, [], rfl, .inl ⟨rfl, h1, h2⟩⟩
  exact ⟨true, _, rfl, .inr ⟨rfl, j, p, h1, by rw [h2]; rfl⟩⟩
 refine Ze ?_
 refine Zx <| DC.seq ?_
 refine Zd (fun c18 => ?_) fun c18 => ?_
 ·obtain ⟨j, p, hp, rfl⟩ : ∃ j p, left[j]? = some p ∧ L65 = [mit encP gm gi m (left.eraseIdx j) (some p), blk g10 24 #[.int .i64 n, .slice Av acc.length cv], slc (.slice Av acc.length cv) 43 2 (prs acc), blk g4 24 #[.int .i64 0, (.slice none 0 0)]] := by
   rcases hcase with ⟨h1, _⟩ | ⟨_, h1⟩
   ·rw [h1] at c18; cases c18
   exact h1
  clear hC65 hcase
  obtain ⟨x, xv⟩ := p
  have hjl := (TA.1 hp).1
  have hel : (left.eraseIdx j).length = left.length - 1 := List.length_eraseIdx_of_lt hjl
  refine DC.skip <| Fin.then <| DC.block <| Zs ?_
  refine Zu (MX (p := (x, xv)) 0 rfl rfl rfl) ?_
  refine Ze ?_
  refine Zw (AD rfl CE rfl) fun g11 => ?_
  refine Zy (At (cs' := #[_, _]) rfl rfl rfl AY rfl (TB rfl) rfl) ?_
  refine Zx <| DC.region ?_
  refine Zf Be ?_
  refine Zl Bu ?_
  refine Zu (Ay (vs := [_, _]) rfl rfl B3 AY rfl (Ak rfl)) ?_
  refine Zw (AP (cs := #[_, _]) rfl rfl TU AY CE rfl (by decide) (by decide) rfl rfl) fun g72 => ?_
  refine Seq.gen rfl rfl (Gen.shape (AK (F := [blk g72 43 #[.int .i64 x.1, .int .i64 x.2], blk g11 43 #[.int .i64 x.1, .int .i64 x.2], mit encP gm gi m (left.eraseIdx j) (some (x, xv)), blk g10 24 #[.int .i64 n, .slice Av acc.length cv], blk g4 24 #[.int .i64 0, (.slice none 0 0)]]) (vs := prs acc) (k := 1) (news := [.int .i64 x.1, .int .i64 x.2]) rfl rfl rfl TU AY P9 CE rfl (by decide) (by decide)
   (fun w hw => hw.pick (.cons 4 rfl (Pick.all _))) (.inl ⟨_, _, rfl, Ak rfl⟩) rfl (by intro u hu; simp at hu; rcases hu with rfl | rfl <;> rfl) (by rw [prs_length]; omega))) ?_
  rintro _ _ ⟨⟨A73, l73, c73, rfl⟩, rfl⟩
  refine Zf Be ?_
  refine Zy (AE (cs' := #[_, _]) rfl rfl rfl Sf rfl (TB rfl) rfl) ?_
  refine Seq.nil <| Fin.inBlock ?_
  refine Ag ⟨left.eraseIdx j, some (x, xv), .slice A73 l73 c73, acc ++ [x]⟩ (by dsimp only; omega) ?_ ⟨rfl, rfl, rfl, trivial⟩ (.cons 3 rfl (.cons 3 rfl (.cons' 0 rfl (by dsimp only; rw [Dm]; rfl) (.cons 2 rfl .nil))))
  dsimp only
  refine List.Perm.trans ?_ hperm
  rw [List.append_assoc]
  refine List.Perm.append_left _ ?_
  exact (M9 hp).map (·.1)
 refine DC.exit <| Ad <| Ad <| Ah <| Fin.then <| DC.seq ?_
 have hnil : left = [] := by
  rcases hcase with ⟨_, h, _⟩ | ⟨h, _⟩
  ·exact h
  rw [h] at c18; cases c18
 obtain rfl : L65 = [mit encP gm gi m left last, blk g10 24 #[.int .i64 n, .slice Av acc.length cv], slc (.slice Av acc.length cv) 43 2 (prs acc), blk g4 24 #[.int .i64 0, (.slice none 0 0)]] := by
  rcases hcase with ⟨_, _, h⟩ | ⟨h, _⟩
  ·exact h
  rw [h] at c18; cases c18
 clear hC65 hcase
 subst hnil
 rw [List.map_nil, List.append_nil] at hperm
 have hrn : ∀ e, e ∈ acc → 0 ≤ e.1 ∧ e.1 ≤ e.2 ∧ e.2 < n := fun e he => by
  obtain ⟨p, hp, e1, _⟩ := (hKm e).1 (hperm.mem_iff.1 he)
  have := hKr p hp
  rw [e1] at this
  have h2 : (nrm p).1 ≤ (nrm p).2 := by unfold nrm; dsimp only; omega
  rw [e1] at h2
  exact ⟨this.1, h2, this.2⟩
 have hbs := Pn hn0.2 hrn
 have hbl : acc.length ≤ 4194304 := by simp at hal; omega
 refine DC.own (M := [slc (.slice Av acc.length cv) 43 2 (prs acc), blk g10 24 #[.int .i64 n, .slice Av acc.length cv], blk g4 24 #[.int .i64 0, (.slice none 0 0)]]) (fun w hw => hw.pick (.cons 2 rfl (.cons 1 rfl (.cons 1 rfl .nil)))) ?_
 refine DC.region ?_
 refine Zf Be ?_
 refine Zl Bu ?_
 refine Seq.gen rfl rfl (Bh Sz rfl rfl rfl (Lc := [slc (.slice Av acc.length cv) 43 2 (prs acc)]) (F := [blk g10 24 #[.int .i64 n, .slice Av acc.length cv], blk g4 24 #[.int .i64 0, (.slice none 0 0)]]) (.refl _) (fun k hk => hk) (fun w hw => KC hbs (hw.sub (L' := [slc (.slice Av acc.length cv) 43 2 (prs acc)]) (.cons_cons _ (TH _))).self (by omega))) ?_
 rintro v77 _ ⟨_, ⟨fs, rfl, hfp, hfs⟩, rfl⟩
 simp only [zs]
 refine Zx <| Zs ?_
 refine Zu (Ay (vs := [_, _]) rfl rfl Bn Bg rfl (Ak rfl)) ?_
 refine Zy (At (cs' := #[_, _]) rfl rfl rfl Bg rfl (TB rfl) rfl) ?_
 refine Za ?_
 refine Zx <| DC.ret ?_
 refine Bf (cs := #[_, _]) (.inl rfl) rfl rfl rfl Bn Bg ?_
 have hfn : fs.Nodup := (hfp.trans hperm).nodup_iff.2 hKn
 refine ⟨[slc (.slice Av acc.length cv) 43 2 (prs fs)], fun w hw => hw.pick (.cons 0 rfl .nil), n, _, _, _, 0, fs, rfl, rfl, fun _ => ⟨rfl, hn0.1, hn0.2, hKr, ?_, fun x => ?_, ?_⟩, by simp⟩
 ·refine (hfs.and hfn).imp fun {a b} h => ?_
  obtain ⟨h1, h2⟩ := h
  unfold Lex at h1 ⊢
  by_cases e1 : a.1 = b.1
  ·by_cases e2 : a.2 = b.2
   ·exact absurd (Prod.ext e1 e2) h2
   omega
  omega
 ·rw [(hfp.trans hperm).mem_iff, hKm x]
 rw [hfp.length_eq]; exact hbl
/-- A scanner: its struct in block gs, its tokens. -/
def scL (gs : Nat) (vb vt : Value) (i : Nat) (tk : List Tk) : List Chunk := [blk gs 176 #[vb, .int .i64 i, vt], slc vt 138 4 (tks tk)]
def sflt (v e : Int) : Value := .iface 172 (.agg #[.int .i64 v, .int .i64 e])
def digAt (bs : List UInt8) (i : Nat) : Bool := (bs[i]?.map isDig).getD false
theorem DZ {gs i : Nat} {vb vt : Value} {tk : List Tk} {kd fr nu : Int} {w : World} (hO : Own w (idsOf (scL gs vb vt i tk)) w (scL gs vb vt i tk)) (hl : tk.length ≤ 100000000) :
  Calls Tryz.prog 135 #[.pointer (some ⟨gs, 0, none⟩), .int .i64 kd, .int .i64 fr, .int .i64 nu] w
   (Ret w (idsOf (scL gs vb vt i tk)) fun r M => r = .tuple #[] ∧ ∃ vt', M = scL gs vb vt' i (tk ++ [⟨kd, fr, i, nu⟩])) := by
 refine Ao (args := [_, _, _, _]) Tryz.func135 rfl Tryz.ntmps135 rfl hO ?_
 unfold scL
 refine AF (cl := [.q, .q, .q, .q, .v, .q, .q, .q, .q, .q, .v, .q, .q, .n, .g, .q, .q, .g]) (A := [0, 0, 2, 6, 14, 0, 0, 0, 128, 384, 896, 0, 4064, 8160, 16382, 32767, 65535, 131071]) (order := [0, 1, 2, 3, 4, 5, 6, 7, 8, 9, 10, 11, 12, 13, 14, 15, 16, 17]) [] mixed (by kernel_rfl) (fun w hw => hw.pick .nil) ?_
 iterate 2 refine Ym ?_
 refine Yo rfl (AH rfl rfl) ?_
 refine Yf J2 ?_
 refine Yl NI ?_
 iterate 3 refine Ym ?_
 refine Yo rfl (AH rfl rfl) ?_
 refine Yf Bx ?_
 refine Yl AJ ?_
 refine Ym ?_
 refine Yo rfl (AA (cs := #[_, _, _, _]) rfl rfl Tu rfl rfl) ?_
 refine BD rfl rfl rfl rfl (AP (cs := #[_, _, _, _]) rfl rfl TX Cn IK rfl (by decide) (by decide) rfl rfl) fun g21 => ?_
 refine DS (V := [blk g21 138 #[.int .i64 kd, .int .i64 fr, .int .i64 i, .int .i64 nu], blk gs 176 #[vb, .int .i64 i, vt], slc vt 138 4 (tks tk)]) rfl rfl rfl rfl rfl (Gen.shape (AK (F := [blk g21 138 #[.int .i64 kd, .int .i64 fr, .int .i64 i, .int .i64 nu], blk gs _ _]) (vs := tks tk) (k := 1) (news := [.int .i64 kd, .int .i64 fr, .int .i64 i, .int .i64 nu]) rfl rfl rfl TX Cn Rt IK rfl (by decide) (by decide)
  (fun w hw => hw.pick (.cons 2 rfl (.cons 0 rfl (.cons 0 rfl .nil)))) (.inl ⟨_, _, rfl, Ak rfl⟩) rfl (by intro u hu; simp at hu; rcases hu with rfl | rfl | rfl | rfl <;> rfl) (by rw [tks_length]; omega))) (fun v L' hC w hw => hw.pick (.nil)) ?_
 rintro _ _ ⟨⟨A11, l11, c11, rfl⟩, rfl⟩
 refine Yo rfl (AH rfl rfl) ?_
 refine Yf J2 ?_
 refine AS rfl rfl rfl rfl (AE (cs' := #[_, _, _]) rfl rfl rfl ON rfl (TB rfl) rfl) (fun w hw => hw.pick (.nil)) ?_
 refine Flow.end rfl ?_
 simp only [zq, zr]
 refine Fin.weak (E' := []) trivial (.cons 2 rfl (.cons 0 rfl .nil)) ?_
 refine Cb (.inr rfl) rfl ?_
 refine ⟨rfl, .slice A11 l11 c11, ?_⟩
 simp [scL, Hh, tks]
theorem Fx {gs i : Nat} {vb vt : Value} {bs : List UInt8} {w : World} (hg : w.heap[gs]? = some (.cells #[vb, .int .i64 i, vt] 176 (0, 0))) (hB : ByV w vb bs) :
  Calls Tryz.prog 133 #[.pointer (some ⟨gs, 0, none⟩)] w (Ret w [] fun r M => M = [] ∧ r = .bool (digAt bs i)) := by
 obtain ⟨A, cap, rfl, hR, h1, h2⟩ := hB
 refine Ao (args := [_]) (L := []) Tryz.func133 rfl Tryz.ntmps133 rfl (Own.start _ _) ?_
 refine Zs ?_
 refine Za ?_
 refine Zx <| DC.seq ?_
 refine AF (cl := [.q, .q, .q, .v, .q, .q, .q, .v, .q, .q, .q, .q, .q, .q, .v, .q, .q, .q, .v, .q, .v, .q, .q, .q, .q, .q, .q, .v, .q, .q, .q, .v, .q, .v, .q, .q, .q]) (A := [0, 1, 3, 7, 0, 16, 48, 112, 240, 511, 1023, 2047, 4095, 8191, 16383, 2047, 34815, 100351, 231423, 524287, 1048575, 2097151, 4194303, 8388607, 16777215, 33554431, 67108863, 134217727, 16777215, 285212671, 822083583, 1895825407, 4294967295, 8589934591, 17179869183, 34359738367, 68719476735]) (order := [0, 1, 2, 3, 4, 5, 6, 7, 8, 9, 10, 11, 12, 13, 14, 15, 16, 17, 18, 19, 20, 21, 22, 23, 24, 25, 26, 27, 28, 29, 30, 31, 32, 33, 34, 35, 36]) [] mixed (by kernel_rfl) (fun w hw => hw.pick .nil) ?_
 refine Ym ?_
 refine Yo rfl (AH rfl rfl) ?_
 refine Yf Bx ?_
 refine Am rfl rfl rfl rfl (Ai rfl rfl AJ (Bc hg rfl)) ?_
 refine Ym ?_
 refine Yo rfl (AH rfl rfl) ?_
 refine Yf DB ?_
 refine Am rfl rfl rfl rfl (Ai rfl rfl E4 (Bc hg rfl)) ?_
 refine Yo rfl (CC rfl rfl TV) ?_
 refine Yo rfl (E7 rfl rfl rfl) ?_
 refine Ym ?_
 refine Flow.split 13 rfl (fun k1_10 => ?_) (fun k1_10 => ?_)
 ·have hil : i < bs.length := by simpa using k1_10
  obtain ⟨c, hc⟩ : ∃ c, bs[i]? = some c := ⟨_, Tz hil⟩
  obtain ⟨ad, rfl, hcell⟩ := hR.byte hc
  refine Ym ?_
  refine Yo rfl (AH rfl rfl) ?_
  refine Yf DB ?_
  refine Am rfl rfl rfl rfl (Ai rfl rfl E4 (Bc hg rfl)) ?_
  refine Ym ?_
  refine Yo rfl (AH rfl rfl) ?_
  refine Yf Bx ?_
  refine Am rfl rfl rfl rfl (Ai rfl rfl AJ (Bc hg rfl)) ?_
  refine Yo rfl (Aj (ad' := ad.add i) rfl rfl rfl TV Dw (by omega) (by omega) (by rw [TC])) ?_
  refine Am rfl rfl rfl rfl (Ai rfl rfl Qo (Aw hcell)) ?_
  refine Yo rfl (Cc rfl rfl rfl) ?_
  refine Yo rfl (A7 rfl rfl rfl) ?_
  refine Ym ?_
  refine Flow.split 26 rfl (fun k1_23 => ?_) (fun k1_23 => ?_)
  ·refine Ym ?_
   refine Yo rfl (AH rfl rfl) ?_
   refine Yf DB ?_
   refine Am rfl rfl rfl rfl (Ai rfl rfl E4 (Bc hg rfl)) ?_
   refine Ym ?_
   refine Yo rfl (AH rfl rfl) ?_
   refine Yf Bx ?_
   refine Am rfl rfl rfl rfl (Ai rfl rfl AJ (Bc hg rfl)) ?_
   refine Yo rfl (Aj (ad' := ad.add i) rfl rfl rfl TV Dw (by omega) (by omega) (by rw [TC])) ?_
   refine Am rfl rfl rfl rfl (Ai rfl rfl Qo (Aw hcell)) ?_
   refine Yo rfl (HF rfl rfl rfl) ?_
   refine Yo rfl (A7 rfl rfl rfl) ?_
   refine Yo rfl (AR rfl rfl) ?_
   refine Flow.end rfl ?_
   simp only [zq, zr]
   refine Fin.then <| DC.ret ?_
   refine Zh ?_
   refine ⟨rfl, ?_⟩
   first
   | (have h9 : 48 ≤ c.toNat := by (simp at k1_23; omega)
      rw [digAt, hc]; simp [isDig, h9]; omega)
   | (have h9 : ¬ 48 ≤ c.toNat := by (simp at k1_23; omega)
      rw [digAt, hc]; simp [isDig, h9])
   | (rw [digAt, TQ hil]; rfl)
  iterate 11 refine Yk ?_
  refine Yo rfl (AZ rfl rfl rfl) ?_
  refine Yo rfl (AR rfl rfl) ?_
  refine Flow.end rfl ?_
  simp only [zq, zr]
  refine Fin.then <| DC.ret ?_
  refine Zh ?_
  refine ⟨rfl, ?_⟩
  first
  | (have h9 : 48 ≤ c.toNat := by (simp at k1_23; omega)
     rw [digAt, hc]; simp [isDig, h9]; omega)
  | (have h9 : ¬ 48 ≤ c.toNat := by (simp at k1_23; omega)
     rw [digAt, hc]; simp [isDig, h9])
  | (rw [digAt, TQ hil]; rfl)
 have hil : bs.length ≤ i := by simpa using k1_10
 iterate 11 refine Yk ?_
 refine Yo rfl (AZ rfl rfl rfl) ?_
 refine Ym ?_
 iterate 11 refine Yk ?_
 refine Yo rfl (AZ rfl rfl rfl) ?_
 refine Yo rfl (AR rfl rfl) ?_
 refine Flow.end rfl ?_
 simp only [zq, zr]
 refine Fin.then <| DC.ret ?_
 refine Zh ?_
 refine ⟨rfl, ?_⟩
 first
 | (have h9 : 48 ≤ c.toNat := by (simp at k1_23; omega)
    rw [digAt, hc]; simp [isDig, h9]; omega)
 | (have h9 : ¬ 48 ≤ c.toNat := by (simp at k1_23; omega)
    rw [digAt, hc]; simp [isDig, h9])
 | (rw [digAt, TQ hil]; rfl)
theorem J9 {c : UInt8} (h : isDig c = true) : 48 ≤ c.toNat ∧ c.toNat ≤ 57 := by simpa [isDig] using h
theorem ME : ∀ (k : Nat) (l : List UInt8), l.length = k → (∀ c, c ∈ l → isDig c = true) → 0 ≤ decF l ∧ decF l < 10 ^ k := by
 intro k
 induction k with
 | zero => intro l h _; rw [TO h]; simp [decF]
 | succ k ih =>
  intro l h hd
  have hne : l ≠ [] := by rintro rfl; simp at h
  obtain ⟨x, hx⟩ : ∃ x, x = l.getLast hne := ⟨_, rfl⟩
  have e : l = l.dropLast ++ [x] := by rw [hx]; exact (List.dropLast_concat_getLast hne).symm
  have h1 := ih l.dropLast (by simp; omega) (fun c hc => hd c (List.dropLast_subset _ hc))
  have h2 := J9 (hd x (by rw [hx]; exact List.getLast_mem hne))
  rw [e, Jh]
  have : (10 : Int) ^ (k + 1) = 10 * 10 ^ k := by rw [Int.pow_succ, Int.mul_comm]
  omega
theorem CV {bs : List UInt8} {i : Nat} (h : digAt bs i = true) : ∃ c, bs[i]? = some c ∧ isDig c = true := by
 unfold digAt at h
 cases hc : bs[i]? with
 | none => rw [hc] at h; cases h
 | some c => rw [hc] at h; exact ⟨c, rfl, h⟩
def numAt (bs : List UInt8) (i j : Nat) : Int := decF ((bs.drop i).take (min (j - i) 9))
theorem Gk {bs : List UInt8} {i j : Nat} (hd : ∀ p, i ≤ p → p < j → digAt bs p = true) (hij : i ≤ j) (hj : j ≤ bs.length) : 0 ≤ numAt bs i j ∧ numAt bs i j < 1000000000 := by
 have hl : ((bs.drop i).take (min (j - i) 9)).length = min (j - i) 9 := by simp; omega
 have := ME _ _ hl (fun c hc => by
  obtain ⟨p, hp, rfl⟩ := List.mem_iff_getElem.1 hc
  rw [hl] at hp
  obtain ⟨c', h1, h2⟩ := CV (hd (i + p) (by omega) (by omega))
  simp only [List.getElem_take, List.getElem_drop]
  rw [Tz (by omega)] at h1
  cases h1; exact h2)
 have h9 : (10 : Int) ^ (min (j - i) 9) ≤ 10 ^ 9 := by
  have : min (j - i) 9 ≤ 9 := Nat.min_le_right _ _
  exact_mod_cast Nat.pow_le_pow_right (by omega) this
 have : (10 : Int) ^ 9 = 1000000000 := by decide
 unfold numAt
 omega
theorem HL {bs : List UInt8} {i j : Nat} {c : UInt8} (hij : i ≤ j) (hc : bs[j]? = some c) : numAt bs i (j + 1) = if j - i < 9 then 10 * numAt bs i j + ((c.toNat : Int) - 48) else numAt bs i j := by
 unfold numAt
 have hj := (TA.1 hc).1
 split
 ·rename_i h
  rw [show min (j + 1 - i) 9 = (j - i) + 1 by omega, show min (j - i) 9 = j - i by omega, List.take_add_one, ← Jh]
  congr 1; congr 1
  rw [List.getElem?_drop, show i + (j - i) = j by omega, hc]; rfl
 rename_i h
 rw [show min (j + 1 - i) 9 = 9 by omega, show min (j - i) 9 = 9 by omega]
theorem L4 {gs i : Nat} {vb vt : Value} {tk : List Tk} {bs : List UInt8} {w : World} (hO : Own w (idsOf (scL gs vb vt i tk)) w (scL gs vb vt i tk)) (hB : ByV w vb bs) (ho : ByO vb bs (idsOf (scL gs vb vt i tk))) (hl : tk.length ≤ 100000000) (hb : bs.length ≤ 33554432)
  (h0 : digAt bs i = true) :
  Calls Tryz.prog 134 #[.pointer (some ⟨gs, 0, none⟩)] w
   (RetP w (idsOf (scL gs vb vt i tk)) (fun r M => r = .tuple #[] ∧ ∃ vt' j tk', M = scL gs vb vt' j tk' ∧ (i < j ∧ j ≤ bs.length) ∧ tk'.length = tk.length + 1 ∧ scanF i (bs.drop i) tk = scanF j (bs.drop j) tk')
    (fun pv M => ∃ a e, pv = sflt a e ∧ scanF i (bs.drop i) tk = .bad a e)) := by
 obtain ⟨A, cap, hvb, hR, hb1, hb2⟩ := id hB
 have hil : i < bs.length := by obtain ⟨c, hc, _⟩ := CV h0; exact (TA.1 hc).1
 obtain ⟨c0, hc0, hd0⟩ := CV h0
 obtain ⟨ad0, hA, _⟩ := hR.byte hc0
 subst hA
 subst hvb
 refine Dh (args := [_]) Tryz.func134 rfl Tryz.ntmps134 rfl hO ?_
 unfold scL at ho ⊢
 refine Zs ?_
 refine Zm ?_
 refine Zo (AH rfl rfl) ?_
 refine Zf Bx ?_
 refine Zl AJ ?_
 iterate 2 refine Za ?_
 refine Zx <| DC.seq <| DC.block ?_
 refine DC.loop (ι := Nat) (fun j => i ≤ j ∧ j ≤ bs.length ∧ ∀ p, i ≤ p → p < j → digAt bs p = true)
  (fun j => [(0, .pointer (some ⟨gs, 0, none⟩)), (2, .int .i64 i), (3, .int .i64 (numAt bs i j))]) (fun j => [blk gs 176 #[.slice (some ad0) bs.length cap, .int .i64 (j : Nat), vt], slc vt 138 4 (tks tk)]) (fun j => bs.length - j) i ⟨Nat.le_refl _, by omega, fun p h1 h2 => by omega⟩ ⟨rfl, rfl, by simp [numAt, decF, Br], trivial⟩ (.cons 0 rfl (.cons 0 rfl .nil)) ?_
 rintro j ⟨hij, hjl, hdj⟩
 refine DC.seq <| Zs ?_
 refine Zm ?_
 refine Seq.rel0 rfl rfl (Ar Rl rfl rfl rfl (fun w hw => Fx (i := j) (vt := vt) (hw.holds _ (TI ..)) (hB.keep ho hw))) ?_
 rintro _ rfl
 refine Zx ?_
 refine Zd (fun c1 => ?_) fun c1 => ?_
 ·obtain ⟨c, hcj, hdc⟩ := CV (bs := bs) (i := j) (by simpa using c1)
  have hcn := J9 hdc
  have hjl' : j < bs.length := (TA.1 hcj).1
  have hnb := Gk hdj hij hjl
  refine DC.skip <| Fin.then <| DC.block <| DC.seq <| Zs ?_
  refine Zm ?_
  refine Zo (AH rfl rfl) ?_
  refine Zf Bx ?_
  refine Zl AJ ?_
  refine Zm ?_
  refine Zo (Bv rfl rfl rfl (by omega)) ?_
  refine Zc ?_
  refine Zx ?_
  refine Zd (fun c2 => ?_) fun c2 => ?_
  ·refine AF (cl := [.q, .q, .q, .q, .q, .v, .q, .q, .q, .v, .q, .v, .q, .q, .q, .q]) (A := [0, 1, 0, 4, 12, 28, 0, 64, 192, 448, 1020, 2044, 4092, 8188, 16383, 32767]) (order := [0, 1, 2, 3, 4, 5, 6, 7, 8, 9, 10, 11, 12, 13, 14, 15]) [] mixed (by kernel_rfl) (fun w hw => hw.pick .nil) ?_
   refine Ym ?_
   refine Yo rfl (Cl rfl rfl rfl (by omega)) ?_
   refine Ym ?_
   refine Yo rfl (AH rfl rfl) ?_
   refine Yf DB ?_
   refine Yl E4 ?_
   refine Ym ?_
   refine Yo rfl (AH rfl rfl) ?_
   refine Yf Bx ?_
   refine Yl AJ ?_
   refine Yo rfl (Aj (ad' := ad0.add j) rfl rfl rfl TV Dw (by omega) (by omega) (by rw [TC])) ?_
   refine Am rfl rfl rfl rfl (Ai rfl rfl Qo (hB.has ho hcj)) ?_
   refine Yo rfl (O8 rfl rfl rfl (by omega)) ?_
   refine Yo rfl (HG rfl rfl Tryz.underlying5 Tryz.underlying3 (by omega) (by omega)) ?_
   refine Yo rfl (CI rfl rfl rfl (by omega)) ?_
   refine Yo rfl (AR rfl rfl) ?_
   refine Flow.end rfl ?_
   simp only [zq, zr]
   refine Fin.then <| DC.region ?_
   refine Zm ?_
   refine Zo (AH rfl rfl) ?_
   refine Zf Bx ?_
   refine Zl AJ ?_
   refine Zp ?_
   refine Zo (AH rfl rfl) ?_
   refine Zf Bx ?_
   refine Zy (AE (cs' := #[_, _, _]) rfl rfl rfl AQ rfl (TB rfl) rfl) ?_
   refine Seq.nil <| Fin.inBlock ?_
   have hst := HL hij hcj
   refine Ag (j + 1) (by omega) ⟨by omega, by omega, fun p h1 h2 => ?_⟩ ⟨rfl, rfl, ?_, trivial⟩ (.cons' 0 rfl (by simp) (.cons 0 rfl .nil))
   ·by_cases hp : p = j
    ·subst hp; simpa using c1
    exact hdj p h1 (by omega)
   rw [hst]
   simp at c2
   first
   | (rw [if_pos (by omega)]; rfl)
   | (rw [if_neg (by omega)]; rfl)
  refine DC.skip <| Fin.then <| DC.region ?_
  refine Zm ?_
  refine Zo (AH rfl rfl) ?_
  refine Zf Bx ?_
  refine Zl AJ ?_
  refine Zp ?_
  refine Zo (AH rfl rfl) ?_
  refine Zf Bx ?_
  refine Zy (AE (cs' := #[_, _, _]) rfl rfl rfl AQ rfl (TB rfl) rfl) ?_
  refine Seq.nil <| Fin.inBlock ?_
  have hst := HL hij hcj
  refine Ag (j + 1) (by omega) ⟨by omega, by omega, fun p h1 h2 => ?_⟩ ⟨rfl, rfl, ?_, trivial⟩ (.cons' 0 rfl (by simp) (.cons 0 rfl .nil))
  ·by_cases hp : p = j
   ·subst hp; simpa using c1
   exact hdj p h1 (by omega)
  rw [hst]
  simp at c2
  first
  | (rw [if_pos (by omega)]; rfl)
  | (rw [if_neg (by omega)]; rfl)
 refine DC.exit <| Ad <| Ad <| Ah <| Fin.then <| DC.seq <| DC.seq ?_
 have hkd : digs (bs.drop i) = j - i := by
  rw [H6 (j - i) i (fun p h1 h2 => CV (hdj p h1 (by omega))), show i + (j - i) = j by omega, LB (fun c hc => by simpa [digAt, hc] using c1), Nat.add_zero]
 have hji : i < j := by
  rcases Nat.lt_or_eq_of_le hij with h | h
  ·exact h
  subst h; rw [h0] at c1; simp at c1
 refine DC.region ?_
 refine Zm ?_
 refine Zo (AH rfl rfl) ?_
 refine Zf Bx ?_
 refine Zl AJ ?_
 refine Zm ?_
 refine Zo (Bv rfl rfl rfl (by omega)) ?_
 refine Za ?_
 refine Zx <| Zs ?_
 refine Zm ?_
 refine Zo (Bs rfl rfl rfl) ?_
 refine Zm ?_
 refine Seq.split 48 rfl (fun k6_2 => ?_) (fun k6_2 => ?_)
 ·refine Zk ?_
  iterate 11 refine Zk ?_
  refine Zt ?_
  refine Zx ?_
  refine AI rfl ?_
  refine DC.region ?_
  refine Zm ?_
  refine Zo (AA (cs := #[_, _]) rfl rfl NF rfl rfl) ?_
  refine Zo (Fj (v := sflt i 12) rfl rfl (fun w => by kernel_rfl)) ?_
  refine Seq.panic rfl rfl rfl ?_
  refine Az <| ?_
  refine Bp ⟨i, 12, rfl, Fy hc0 hd0 hkd ?_⟩
  first
  | (simp at k6_2; omega)
  | (simp at k6_5 c6; omega)
 refine Zm ?_
 refine Zo (Bs rfl rfl rfl) ?_
 refine Zm ?_
 refine Seq.split 51 rfl (fun k6_5 => ?_) (fun k6_5 => ?_)
 ·refine Zm ?_
  refine Zo (AH rfl rfl) ?_
  refine Zf DB ?_
  refine Zl E4 ?_
  refine Zm ?_
  refine Zo (Aj (ad' := ad0.add i) rfl rfl rfl TV Dw (by omega) (by omega) (by rw [TC])) ?_
  refine Zu (Ai rfl rfl Qo (hB.has ho hc0)) ?_
  refine Zo (AN rfl rfl rfl) ?_
  refine Zt ?_
  refine Zg ?_
  refine Zx ?_
  refine Zd (fun c6 => ?_) fun c6 => ?_
  ·refine DC.region ?_
   refine Zm ?_
   refine Zo (AA (cs := #[_, _]) rfl rfl NF rfl rfl) ?_
   refine Zo (Fj (v := sflt i 12) rfl rfl (fun w => by kernel_rfl)) ?_
   refine Seq.panic rfl rfl rfl ?_
   refine Az <| ?_
   refine Bp ⟨i, 12, rfl, Fy hc0 hd0 hkd ?_⟩
   first
   | (simp at k6_2; omega)
   | (simp at k6_5 c6; omega)
  refine DC.skip <| Fin.then <| DC.region ?_
  iterate 3 refine Zm ?_
  refine Seq.gen rfl rfl (Bh NA rfl rfl rfl (Lc := scL gs (.slice (some ad0) bs.length cap) vt j tk) (F := []) (.refl _) (fun k hk => hk) (fun w hw => DZ hw.self hl)) ?_
  rintro _ _ ⟨_, ⟨rfl, vt', rfl⟩, rfl⟩
  refine Seq.nil ?_
  refine Dv (.inr rfl) (Cb (.inr rfl) rfl ?_)
  have hk9 : ¬(9 < j - i ∨ (1 < j - i ∧ c0.toNat = 48)) := by
   first
   | (simp at k6_2 k6_5 c6; omega)
   | (simp at k6_2 k6_5; omega)
  refine ⟨rfl, vt', j, _, List.append_nil _, ⟨hji, hjl⟩, by simp, ?_⟩
  have := IP (acc := tk) hc0 hd0 hkd (by omega) (by omega)
  rw [this, show i + (j - i) = j by omega]
  unfold numAt
  rw [show min (j - i) 9 = j - i by omega]
 iterate 8 refine Zk ?_
 iterate 2 refine Zg ?_
 refine Zx ?_
 refine AT rfl ?_
 refine DC.skip <| Fin.then <| DC.region ?_
 iterate 3 refine Zm ?_
 refine Seq.gen rfl rfl (Bh NA rfl rfl rfl (Lc := scL gs (.slice (some ad0) bs.length cap) vt j tk) (F := []) (.refl _) (fun k hk => hk) (fun w hw => DZ hw.self hl)) ?_
 rintro _ _ ⟨_, ⟨rfl, vt', rfl⟩, rfl⟩
 refine Seq.nil ?_
 refine Dv (.inr rfl) (Cb (.inr rfl) rfl ?_)
 have hk9 : ¬(9 < j - i ∨ (1 < j - i ∧ c0.toNat = 48)) := by
  first
  | (simp at k6_2 k6_5 c6; omega)
  | (simp at k6_2 k6_5; omega)
 refine ⟨rfl, vt', j, _, List.append_nil _, ⟨hji, hjl⟩, by simp, ?_⟩
 have := IP (acc := tk) hc0 hd0 hkd (by omega) (by omega)
 rw [this, show i + (j - i) = j by omega]
 unfold numAt
 rw [show min (j - i) 9 = j - i by omega]
structure AllI where
 i : Nat
 vt : Value
 tk : List Tk
theorem L8 {gs : Nat} {vb vt : Value} {bs : List UInt8} {w : World} (hO : Own w (idsOf (scL gs vb vt 0 [])) w (scL gs vb vt 0 [])) (hB : ByV w vb bs) (ho : ByO vb bs (idsOf (scL gs vb vt 0 []))) :
  Calls Tryz.prog 106 #[.pointer (some ⟨gs, 0, none⟩)] w
   (RetP w (idsOf (scL gs vb vt 0 [])) (fun r M => r = .tuple #[] ∧ ∃ vt' j tk', M = scL gs vb vt' j tk' ∧ scanA bs = .ok tk' ∧ tk'.length ≤ 33554433)
    (fun pv M => ∃ a e, pv = sflt a e ∧ scanA bs = .bad a e)) := by
 obtain ⟨A, cap, hvb, hR, hb1, hb2⟩ := id hB
 refine Dh (args := [_]) Tryz.func106 rfl Tryz.ntmps106 rfl hO ?_
 subst hvb
 unfold scL at ho ⊢
 refine DC.seq <| Zs ?_
 refine Zm ?_
 refine Zo (AH rfl rfl) ?_
 refine Zf DB ?_
 refine Zl E4 ?_
 refine Zn TV ?_
 refine Zo (Bs rfl rfl rfl) ?_
 refine Zx ?_
 refine Zd (fun c0 => ?_) fun c0 => ?_
 ·refine DC.region ?_
  refine Zo (AA (cs := #[_, _]) rfl rfl NF rfl rfl) ?_
  refine Zo (Fj (v := sflt 33554432 10) rfl rfl (fun w => by kernel_rfl)) ?_
  refine Seq.panic rfl rfl rfl ?_
  refine Az <| ?_
  refine Bp ⟨33554432, 10, rfl, ?_⟩
  have : 33554432 < bs.length := by simp at c0; omega
  simp [scanA, this]
 have hlen : bs.length ≤ 33554432 := by simp at c0; omega
 have hsA : scanA bs = scanF 0 bs [] := by rw [scanA, if_neg (by omega)]
 refine DC.skip <| Fin.then <| DC.seq <| DC.block ?_
 refine DC.loop (ι := AllI) (fun j => j.i ≤ bs.length ∧ j.tk.length ≤ j.i ∧ scanA bs = scanF j.i (bs.drop j.i) j.tk)
  (fun j => [(0, .pointer (some ⟨gs, 0, none⟩))]) (fun j => [blk gs 176 #[.slice A bs.length cap, .int .i64 (j.i : Nat), j.vt], slc j.vt 138 4 (tks j.tk)]) (fun j => bs.length - j.i) ⟨0, vt, []⟩ ⟨by simp, by simp, hsA⟩ ⟨rfl, trivial⟩ (.cons 0 rfl (.cons 0 rfl .nil)) ?_
 rintro ⟨i, vt, tk⟩ ⟨hi, htl, hsc⟩
 dsimp only at hi htl hsc ⊢
 refine DC.seq <| DC.seq ?_
 refine AF (cl := [.q, .q, .q, .v, .q, .q, .q, .v, .q, .q]) (A := [0, 1, 3, 7, 0, 16, 48, 112, 240, 511]) (order := [0, 1, 2, 3, 4, 5, 6, 7, 8, 9]) [] mixed (by kernel_rfl) (fun w hw => hw.pick .nil) ?_
 refine Ym ?_
 refine Yo rfl (AH rfl rfl) ?_
 refine Yf Bx ?_
 refine Yl AJ ?_
 refine Ym ?_
 refine Yo rfl (AH rfl rfl) ?_
 refine Yf DB ?_
 refine Yl E4 ?_
 refine Yo rfl (CC rfl rfl TV) ?_
 refine Yo rfl (E7 rfl rfl rfl) ?_
 refine Flow.end rfl ?_
 simp only [zq, zr]
 refine Fin.then ?_
 refine Zd (fun c2 => ?_) fun c2 => ?_
 ·have hil : i < bs.length := by simpa using c2
  obtain ⟨c, hc⟩ : ∃ c, bs[i]? = some c := ⟨_, Tz hil⟩
  obtain ⟨ad, rfl, hcell⟩ := hR.byte hc
  refine DC.skip <| Fin.then <| DC.block <| DC.seq ?_
  refine AF (cl := [.q, .q, .q, .v, .q, .q, .q, .v, .q, .v, .q]) (A := [0, 1, 3, 7, 0, 16, 48, 112, 255, 511, 1023]) (order := [0, 1, 2, 3, 4, 5, 6, 7, 8, 9, 10]) [] mixed (by kernel_rfl) (fun w hw => hw.pick .nil) ?_
  refine Ym ?_
  refine Yo rfl (AH rfl rfl) ?_
  refine Yf DB ?_
  refine Yl E4 ?_
  refine Ym ?_
  refine Yo rfl (AH rfl rfl) ?_
  refine Yf Bx ?_
  refine Yl AJ ?_
  refine Yo rfl (Aj (ad' := ad.add i) rfl rfl rfl TV Dw (by omega) (by omega) (by rw [TC])) ?_
  refine Am rfl rfl rfl rfl (Ai rfl rfl Qo (hB.has ho hc)) ?_
  refine Yo rfl (AR rfl rfl) ?_
  refine Flow.end rfl ?_
  simp only [zq, zr]
  refine Fin.then <| DC.block <| Zs ?_
  refine Zm ?_
  refine Seq.rel0 rfl rfl (Ar Rl rfl rfl rfl (fun w hw => Fx (i := i) (vt := vt) (hw.holds _ (TI ..)) (hB.keep ho hw))) ?_
  rintro _ rfl
  refine Za ?_
  refine Zx ?_
  refine Zd (fun c5 => ?_) fun c5 => ?_
  ·have hd : digAt bs i = true := by simpa using c5
   refine DC.region ?_
   refine Zm ?_
   refine DQ rfl rfl S4 rfl rfl rfl (Lc := scL gs (.slice (some ad) bs.length cap) vt i tk) (F := []) (.refl _) (fun k hk => hk) (fun w hw => L4 hw.self (hB.keep ho hw) (ByO.step hB ho hw) (by omega) hlen hd) ?_ ?_
   ·rintro pv L' ⟨a, e, rfl, h⟩
    refine AB <| AB <| Az <| AB <| Az <| ?_
    exact Bp ⟨a, e, rfl, hsc.trans h⟩
   rintro _ _ ⟨rfl, vt', j, tk', rfl, ⟨hj, hj2⟩, htk, hsc'⟩
   refine Seq.nil <| Fin.inBlock <| Fin.inBlock ?_
   refine Ag ⟨j, vt', tk'⟩ (by dsimp only; omega) ⟨by dsimp only; omega, by dsimp only; omega, hsc.trans hsc'⟩ ⟨rfl, trivial⟩ (.cons 0 rfl (.cons 0 rfl .nil))
  have hd : isDig c = false := by simpa [digAt, hc] using c5
  refine Zs ?_
  refine Zm ?_
  refine Zo (AN rfl rfl rfl) ?_
  refine Za ?_
  refine Zx ?_
  refine Zd (fun c7 => ?_) fun c7 => ?_
  ·have hc10 : c.toNat = 10 := by simp at c7; omega
   have hst := L7 (acc := tk) hc hd hc10
   refine Zs ?_
   refine Zm ?_
   refine Zo (AH rfl rfl) ?_
   refine Zf Bx ?_
   refine Zl AJ ?_
   refine Zp ?_
   refine Zo (AH rfl rfl) ?_
   refine Zf Bx ?_
   refine Zy (AE (cs' := #[_, _, _]) rfl rfl rfl AQ rfl (TB rfl) rfl) ?_
   refine Seq.nil ?_
   rw [show ((i : Int) + 1) = ((i + 1 : Nat) : Int) from rfl]
   refine Fin.then <| DC.region ?_
   iterate 2 refine Zm ?_
   refine Zo (AH rfl rfl) ?_
   refine Zf Bx ?_
   refine Zl AJ ?_
   refine Zo (Bv rfl rfl rfl (by omega)) ?_
   refine Seq.gen rfl rfl (Bh NA rfl rfl rfl (Lc := scL gs (.slice (some ad) bs.length cap) vt (i + 1) tk) (F := []) (.refl _) (fun k hk => hk) (fun w hw => DZ hw.self (by omega))) ?_
   rintro _ _ ⟨_, ⟨rfl, vt', rfl⟩, rfl⟩
   rw [show ((i + 1 : Nat) : Int) - 1 = (i : Int) by omega]
   refine Seq.nil <| Fin.inBlock <| Fin.inBlock ?_
   refine Ag ⟨i + 1, vt', tk ++ [⟨2, i, (i + 1 : Nat), 0⟩]⟩ (by dsimp only; omega) ⟨by dsimp only; omega, by simp; omega, hsc.trans hst⟩ ⟨rfl, trivial⟩ (.cons 0 rfl (.cons 0 rfl .nil))
  have hc10 : c.toNat ≠ 10 := by simp at c7; omega
  refine Zs ?_
  refine Zm ?_
  refine Zo (AN rfl rfl rfl) ?_
  refine Zm ?_
  refine Seq.split 62 rfl (fun k10_2 => ?_) (fun k10_2 => ?_)
  ·refine Zk ?_
   refine Zk ?_
   refine Zt ?_
   refine Zm ?_
   iterate 2 refine Zk ?_
   refine Zt ?_
   refine Za ?_
   refine Zx ?_
   refine AI rfl ?_
   refine DC.region ?_
   refine Zm ?_
   refine Zo (AH rfl rfl) ?_
   refine Zf Bx ?_
   refine Zl AJ ?_
   refine Zp ?_
   refine Zo (AH rfl rfl) ?_
   refine Zf Bx ?_
   refine Zy (AE (cs' := #[_, _, _]) rfl rfl rfl AQ rfl (TB rfl) rfl) ?_
   refine Seq.nil ?_
   rw [show ((i : Int) + 1) = ((i + 1 : Nat) : Int) from rfl]
   refine Fin.inBlock <| Fin.inBlock ?_
   refine Ag ⟨i + 1, vt, tk⟩ (by dsimp only; omega) ⟨by dsimp only; omega, by dsimp only; omega, hsc.trans (Gc hc hd hc10 ?_)⟩ ⟨rfl, trivial⟩ (.cons 0 rfl (.cons 0 rfl .nil))
   first
   | (simp at k10_2; omega)
   | (simp at k10_6; omega)
   | (simp at c10; omega)
  refine Zm ?_
  refine Zo (AN rfl rfl rfl) ?_
  refine Zg ?_
  refine Zm ?_
  refine Seq.split 66 rfl (fun k10_6 => ?_) (fun k10_6 => ?_)
  ·refine Zk ?_
   refine Zk ?_
   refine Zt ?_
   refine Za ?_
   refine Zx ?_
   refine AI rfl ?_
   refine DC.region ?_
   refine Zm ?_
   refine Zo (AH rfl rfl) ?_
   refine Zf Bx ?_
   refine Zl AJ ?_
   refine Zp ?_
   refine Zo (AH rfl rfl) ?_
   refine Zf Bx ?_
   refine Zy (AE (cs' := #[_, _, _]) rfl rfl rfl AQ rfl (TB rfl) rfl) ?_
   refine Seq.nil ?_
   rw [show ((i : Int) + 1) = ((i + 1 : Nat) : Int) from rfl]
   refine Fin.inBlock <| Fin.inBlock ?_
   refine Ag ⟨i + 1, vt, tk⟩ (by dsimp only; omega) ⟨by dsimp only; omega, by dsimp only; omega, hsc.trans (Gc hc hd hc10 ?_)⟩ ⟨rfl, trivial⟩ (.cons 0 rfl (.cons 0 rfl .nil))
   first
   | (simp at k10_2; omega)
   | (simp at k10_6; omega)
   | (simp at c10; omega)
  refine Zm ?_
  refine Zo (AN rfl rfl rfl) ?_
  refine Zg ?_
  refine Za ?_
  refine Zx ?_
  refine Zd (fun c10 => ?_) fun c10 => ?_
  ·refine DC.region ?_
   refine Zm ?_
   refine Zo (AH rfl rfl) ?_
   refine Zf Bx ?_
   refine Zl AJ ?_
   refine Zp ?_
   refine Zo (AH rfl rfl) ?_
   refine Zf Bx ?_
   refine Zy (AE (cs' := #[_, _, _]) rfl rfl rfl AQ rfl (TB rfl) rfl) ?_
   refine Seq.nil ?_
   rw [show ((i : Int) + 1) = ((i + 1 : Nat) : Int) from rfl]
   refine Fin.inBlock <| Fin.inBlock ?_
   refine Ag ⟨i + 1, vt, tk⟩ (by dsimp only; omega) ⟨by dsimp only; omega, by dsimp only; omega, hsc.trans (Gc hc hd hc10 ?_)⟩ ⟨rfl, trivial⟩ (.cons 0 rfl (.cons 0 rfl .nil))
   first
   | (simp at k10_2; omega)
   | (simp at k10_6; omega)
   | (simp at c10; omega)
  refine DC.region ?_
  refine Zm ?_
  refine Zo (AH rfl rfl) ?_
  refine Zf Bx ?_
  refine Zl AJ ?_
  refine Zo (AA (cs := #[_, _]) rfl rfl NF rfl rfl) ?_
  refine Zo (Fj (v := sflt i 11) rfl rfl (fun w => by kernel_rfl)) ?_
  refine Seq.panic rfl rfl rfl ?_
  refine AB <| AB <| Az <| AB <| Az <| ?_
  exact Bp ⟨i, 11, rfl, hsc.trans (NP hc hd hc10 (by simp at k10_2 k10_6 c10; omega))⟩
 refine DC.exit <| Ad <| Ad <| Ah <| Fin.then <| DC.region ?_
 iterate 2 refine Zm ?_
 refine Zo (AH rfl rfl) ?_
 refine Zf Bx ?_
 refine Zl AJ ?_
 refine Seq.gen rfl rfl (Bh NA rfl rfl rfl (Lc := scL gs (.slice A bs.length cap) vt i tk) (F := []) (.refl _) (fun k hk => hk) (fun w hw => DZ hw.self (by omega))) ?_
 rintro _ _ ⟨_, ⟨rfl, vt', rfl⟩, rfl⟩
 refine Seq.nil ?_
 refine Dv (.inr rfl) (Cb (.inr rfl) rfl ?_)
 have hil : i = bs.length := by simp at c2; omega
 refine ⟨rfl, vt', i, _, List.append_nil _, ?_, by simp; omega⟩
 rw [hsc, NO (by omega) (by omega)]
end Go.Fl
