/- Part 2 of the proof: the library of the walk and the walks, in build order; no condition. -/
import Derived.Test.YthjmapekjggdjaaGreatDoorZO1
set_option linter.unusedVariables false
set_option linter.unusedSimpArgs false
set_option linter.unusedSectionVars false
set_option maxRecDepth 100000
namespace Go.Fl
open Go Go.Proofs
def degA (es : List Pr) (i : Nat) : Nat → Int := fun x => cnt (es.take i) x
theorem IQ {es : List Pr} {i u v : Nat} (he : es[i]? = some ((u : Int), (v : Int))) (hne : u ≠ v) (x : Nat) :
  upd (upd (degA es i) u (degA es i u + 1)) v (upd (degA es i) u (degA es i u + 1) v + 1) x = degA es (i + 1) x := by
 have hc := HI he (by dsimp only; omega) x
 dsimp only at hc
 unfold degA
 rw [hc]
 unfold upd
 dsimp only
 by_cases a1 : x = v
 ·subst a1; rw [if_pos rfl, if_neg (Ne.symm hne), if_neg (by omega), if_pos rfl]; omega
 ·rw [if_neg a1]
  by_cases a2 : x = u
  ·subst a2; rw [if_pos rfl, if_pos rfl, if_neg (by omega)]; omega
  ·rw [if_neg a2, if_neg (by omega), if_neg (by omega)]; omega
theorem EL : ∀ (es : List Pr) (k : Nat) (v : Int), (outsF k es v).length ≤ es.length
 | [], k, v => by simp [outsF]
 | e :: r, k, v => by
  unfold outsF
  have := EL r (k + 1) v
  rw [List.length_append, List.length_cons]
  split
  ·simp; omega
  ·split <;> simp <;> omega
structure DegI where
 i : Nat
theorem EV {N : Int} {es : List Pr} {va : Value} {w : World} (hg : PrV w va es) :
  Calls Tryz.prog 120 #[.agg #[.int .i64 N, va]] w (Ret w [] fun r L =>
   (Vld N es ∧ ∃ g, r = .tuple #[.slice (some ⟨g, 0, none⟩) N.toNat N.toNat, .int .i64 0] ∧ L = [blk g 3 (ints (tab N.toNat (fun v => cnt es v))).toArray]) ∨ (¬ Vld N es ∧ r = .tuple #[.slice none 0 0, .int .i64 1] ∧ L = [])) := by
 obtain ⟨A, cap, rfl, hr, hlc, hcm, hle⟩ := hg
 refine At (args := [_]) (L := []) Tryz.func120 rfl Tryz.ntmps120 rfl (Own.start _ _) ?_
 refine Zs ?_
 refine Zw (AR rfl rfl rfl) fun g1 => ?_
 refine Za ?_
 refine Za ?_
 refine Zx <| DC.seq <| Zs ?_
 refine Zu (Aw (vs := [_, _]) rfl rfl Bo Bh rfl (Am rfl)) ?_
 refine Seq.rel0 rfl rfl (Ao L9 rfl rfl rfl (fun w hw => Eh N es A cap w (hr.keep0 hw) (by omega))) ?_
 rintro _ ⟨b, rfl, hb⟩
 refine Zo (Bg rfl rfl) ?_
 refine Zx ?_
 refine Zd (fun c1 => ?_) fun c1 => ?_
 ·refine Zs ?_
  refine Za ?_
  refine Za ?_
  refine Zx <| DC.ret <| Aa ?_
  refine Fin.weak (E' := [(2, _), (3, _)]) ⟨rfl, rfl, trivial⟩ .nil ?_
  refine AK (.inl rfl) rfl rfl rfl ?_
  exact .inr ⟨by rw [← hb]; simpa using c1, rfl, rfl⟩
 ·refine DC.skip <| Fin.then <| DC.seq ?_
  have hV : Vld N es := hb.1 (by simpa using c1)
  have hN0 := hV.lo
  have hN1 := hV.hi
  obtain ⟨n, rfl⟩ := Int.eq_ofNat_of_zero_le hN0
  simp only [Int.toNat_natCast]
  refine DC.region ?_
  refine Zf Bz ?_
  refine Zl AI ?_
  refine Zw (B1 (k := n) rfl rfl rfl Tryz.underlying44 AL Dp BT rfl (by omega) (by omega) (B9 n)) fun g12 => ?_
  refine Za ?_
  refine Zx <| DC.seq <| Zs ?_
  refine Zf AS ?_
  refine Zl Bj ?_
  refine Zn Tryz.underlying22 ?_
  refine Zm ?_
  refine Zx <| DC.block ?_
  refine DC.loop (ι := DegI) (fun j => j.i ≤ es.length)
   (fun j => [(4, .slice (some ⟨g12, 0, none⟩) n n), (14, .slice A es.length cap), (15, .int .i64 es.length), (16, .int .i64 j.i)])
   (fun j => [blk g12 3 (ints (tab n (degA es j.i))).toArray]) (fun j => es.length - j.i) ⟨0⟩ (Nat.zero_le _) ⟨rfl, rfl, rfl, rfl, trivial⟩ (.cons' 0 rfl (Ct fun _ _ => by simp [degA, cnt, outs, outsF]) .nil) ?_
  rintro ⟨i⟩ hi
  dsimp only at hi ⊢
  refine Zs ?_
  refine Zc ?_
  refine Zx <| DC.seq ?_
  refine Zd (fun c5 => ?_) fun c5 => ?_
  ·have hlt : i < es.length := by simpa using c5
   obtain ⟨e, he⟩ : ∃ e, es[i]? = some e := ⟨_, List.getElem?_eq_getElem hlt⟩
   obtain ⟨ad, rfl, hU, hVe⟩ := hr.pair he
   have ho := hV.ok i e he
   obtain ⟨u, hu⟩ := Int.eq_ofNat_of_zero_le ho.lo
   obtain ⟨v, hv⟩ := Int.eq_ofNat_of_zero_le (show 0 ≤ e.2 by have := ho.lo; have := ho.lt; omega)
   obtain rfl : e = ((u : Int), (v : Int)) := Prod.ext hu hv
   clear hu hv
   have huv : u < v := by have := ho.lt; simp at this; exact this
   have hvN : v < n := by have := ho.hi; simp at this; exact this
   replace hU : w.cell? (ad.add (i * 2)) = some (.int .i64 (u : Int)) := hU
   replace hVe : w.cell? (ad.add (i * 2 + 1)) = some (.int .i64 (v : Int)) := hVe
   have b1 : ∀ (x : Nat), 0 ≤ degA es i x ∧ degA es i x ≤ 4194304 := fun x => by
    have := EL (es.take i) 0 x
    have := hV.few
    simp only [List.length_take] at *
    unfold degA cnt outs; omega
   have b2 := b1 u
   have b3 := b1 v
   refine DC.skip <| Fin.then <| DC.seq <| DC.block <| Zs ?_
   refine Zo (AE rfl rfl rfl Tryz.underlying22 AW (by omega) (by omega) (by first | exact AC _ _ | exact Bf _ _ _ | rfl)) ?_
   refine Zu (Aw (vs := [_, _]) rfl rfl Cr AW rfl (Ck hU hVe (by simp))) ?_
   refine Zw (AO rfl CK rfl) fun g6 => ?_
   refine Zy (Az (cs' := #[_, _]) rfl rfl rfl AW rfl (Nat.le_of_ble_eq_true rfl) rfl) ?_
   refine Zx <| Zs ?_
   refine Zm ?_
   refine Zf AZ ?_
   refine Zl AI ?_
   refine Zi Tryz.underlying44 AL ?_
   refine Zu (Ai rfl rfl AI (Be (Bs (by omega)))) ?_
   refine Zo (Cv rfl rfl rfl (by simp only [Int.toNat_natCast]; omega)) ?_
   refine Zi Tryz.underlying44 AL ?_
   refine Zy (AF rfl rfl rfl AL rfl (by simp; omega) BQ) ?_
   refine Zx ?_
   have b4 : upd (degA es i) u (degA es i u + 1) v = degA es i v := by unfold upd; rw [if_neg (by omega)]
   refine DC.region ?_
   refine Zm ?_
   refine Zf Bi ?_
   refine Zl AI ?_
   refine Zi Tryz.underlying44 AL ?_
   refine Zu (Ai rfl rfl AI (Be (Bs hvN))) ?_
   refine Zo (Cv rfl rfl rfl (by simp only [Int.toNat_natCast]; rw [b4]; omega)) ?_
   refine Zi Tryz.underlying44 AL ?_
   refine Zy (AF rfl rfl rfl AL rfl (by simp; omega) BQ) ?_
   refine Seq.nil <| Fin.inBlock <| Fin.then <| DC.region ?_
   refine Zp ?_
   refine Zm ?_
   refine Seq.nil ?_
   refine Fin.again ⟨i + 1⟩ (by dsimp only; omega) (by dsimp only; omega) ⟨rfl, rfl, rfl, rfl, trivial⟩ (.cons' 1 rfl (Ct fun x _ => IQ he (by omega) x) .nil)
  ·refine DC.exit <| Ad <| Ad <| Ag <| Fin.then <| Zs ?_
   refine Zm ?_
   refine Za ?_
   refine Za ?_
   refine Zx <| DC.ret ?_
   have hin : i = es.length := by simp at c5; omega
   subst hin
   refine Fin.weak (E' := [(2, _), (3, _)]) ⟨rfl, rfl, trivial⟩ (.cons 0 rfl .nil) ?_
   refine AK (.inl rfl) rfl rfl rfl ?_
   exact .inl ⟨hV, g12, rfl, by rw [Ct (g := fun v => cnt es v) fun v _ => by simp [degA]]⟩
end Go.Fl

namespace Go.Fl
open Go
section
variable {N : Int} {es : List Pr}
theorem Cn {h : Int} (h0 : 0 ≤ h) (h1 : h < es.length * 2) : ∃ (e : Nat) (a : Pr), es[e]? = some a ∧ ((h = 2 * (e : Int) ∧ fromV es h = a.1 ∧ toV es h = a.2) ∨ (h = 2 * (e : Int) + 1 ∧ fromV es h = a.2 ∧ toV es h = a.1)) := by
 obtain ⟨e, he⟩ : ∃ e : Nat, h / 2 = e := ⟨(h / 2).toNat, by omega⟩
 have hlt : e < es.length := by omega
 refine ⟨e, es[e], List.getElem?_eq_getElem hlt, ?_⟩
 obtain ⟨f1, f2⟩ := DV (List.getElem?_eq_getElem hlt)
 have g1 : fromV es (2 * (e : Int)) = es[e].1 := by unfold fromV; rw [if_pos (by omega), show (2 * (e : Int)).toNat = 2 * e by omega, f1]; rfl
 have g2 : fromV es (2 * (e : Int) + 1) = es[e].2 := by unfold fromV; rw [if_pos (by omega), show (2 * (e : Int) + 1).toNat = 2 * e + 1 by omega, f2]; rfl
 by_cases hp : h % 2 = 0
 ·left
  have hh : h = 2 * (e : Int) := by omega
  subst hh
  refine ⟨rfl, g1, ?_⟩
  unfold toV tw
  rw [if_pos (by omega), if_pos (by omega)]; exact g2
 ·right
  have hh : h = 2 * (e : Int) + 1 := by omega
  subst hh
  refine ⟨rfl, g2, ?_⟩
  unfold toV tw
  rw [if_pos (by omega), if_neg (by omega), show 2 * (e : Int) + 1 - 1 = 2 * (e : Int) by omega]; exact g1
theorem to_lt (hV : Vld N es) {u h k : Int} (hh : h ∈ outs es u) (hk : k ∈ outs es u) (hlt : h < k) : toV es h < toV es k := by
 obtain ⟨a0, a1, a2⟩ := (Bl hV).1 hh
 obtain ⟨b0, b1, b2⟩ := (Bl hV).1 hk
 obtain ⟨e, a, he, ha⟩ := Cn a0 a1
 obtain ⟨f, b, hf, hb⟩ := Cn b0 b1
 have oa := hV.ok e a he
 have ob := hV.ok f b hf
 have la := oa.lt
 have lb := ob.lt
 by_cases hef : e = f
 ·subst hef
  rw [he] at hf
  cases hf
  rcases ha with ⟨q1, q2, q3⟩ | ⟨q1, q2, q3⟩ <;> rcases hb with ⟨r1, r2, r3⟩ | ⟨r1, r2, r3⟩ <;> omega
 ·have hl := Jn hV (i := e) (j := f) (by rcases ha with ⟨q1, _⟩ | ⟨q1, _⟩ <;> rcases hb with ⟨r1, _⟩ | ⟨r1, _⟩ <;> omega) he hf
  unfold Lex at hl
  rcases ha with ⟨q1, q2, q3⟩ | ⟨q1, q2, q3⟩ <;> rcases hb with ⟨r1, r2, r3⟩ | ⟨r1, r2, r3⟩ <;> omega
/-- A half-edge from u to v. -/
structure IsHalf (es : List Pr) (u v h : Int) : Prop where
 lo : 0 ≤ h
 hi : h < es.length * 2
 fr : fromV es h = u
 to : toV es h = v
theorem IsHalf.uniq (hV : Vld N es) {u v h k : Int} (a : IsHalf es u v h) (b : IsHalf es u v k) : h = k := by
 have ha := (Bl hV).2 ⟨a.lo, a.hi, a.fr⟩
 have hb := (Bl hV).2 ⟨b.lo, b.hi, b.fr⟩
 have h1 := a.to
 have h2 := b.to
 rcases Int.lt_trichotomy h k with c | c | c
 ·have := to_lt hV ha hb c; omega
 ·exact c
 ·have := to_lt hV hb ha c; omega
/-- What the reference answers. -/
def rhalfF (u v : Int) : Nat → List Pr → Int
 | _, [] => -1
 | k, e :: r => if e.1 = u ∧ e.2 = v then 2 * (k : Int) else if e.1 = v ∧ e.2 = u then 2 * (k : Int) + 1 else rhalfF u v (k + 1) r
theorem Gi {u v : Int} : ∀ {l : List Pr} {k : Nat}, (∃ (i : Nat) (e : Pr), l[i]? = some e ∧ ((e.1 = u ∧ e.2 = v ∧ rhalfF u v k l = 2 * ((k + i : Nat) : Int)) ∨ (e.1 = v ∧ e.2 = u ∧ rhalfF u v k l = 2 * ((k + i : Nat) : Int) + 1))) ∨
  (rhalfF u v k l = -1 ∧ ∀ e ∈ l, ¬ (e.1 = u ∧ e.2 = v) ∧ ¬ (e.1 = v ∧ e.2 = u))
 | [], k => .inr ⟨rfl, by simp⟩
 | e :: r, k => by
  unfold rhalfF
  by_cases h1 : e.1 = u ∧ e.2 = v
  ·rw [if_pos h1]; exact .inl ⟨0, e, rfl, .inl ⟨h1.1, h1.2, rfl⟩⟩
  ·rw [if_neg h1]
   by_cases h2 : e.1 = v ∧ e.2 = u
   ·rw [if_pos h2]; exact .inl ⟨0, e, rfl, .inr ⟨h2.1, h2.2, rfl⟩⟩
   ·rw [if_neg h2]
    rcases Gi (u := u) (v := v) (l := r) (k := k + 1) with ⟨i, e', hi, hc⟩ | ⟨h3, h4⟩
    ·refine .inl ⟨i + 1, e', by simpa using hi, ?_⟩
     rw [show k + (i + 1) = k + 1 + i by omega]; exact hc
    ·refine .inr ⟨h3, fun x hx => ?_⟩
     rcases List.mem_cons.1 hx with rfl | hx
     ·exact ⟨h1, h2⟩
     ·exact h4 x hx
theorem Cm {u v : Int} {i : Nat} {e : Pr} (hi : es[i]? = some e) (h1 : e.1 = u) (h2 : e.2 = v) : IsHalf es u v (2 * (i : Int)) := by
 have hl := (List.getElem?_eq_some_iff.1 hi).1
 obtain ⟨e', a, he, ha⟩ := Cn (es := es) (h := 2 * (i : Int)) (by omega) (by omega)
 rcases ha with ⟨q1, q2, q3⟩ | ⟨q1, q2, q3⟩
 ·obtain rfl : e' = i := by omega
  rw [hi] at he; cases he
  exact ⟨by omega, by omega, by omega, by omega⟩
 ·omega
theorem CZ {u v : Int} {i : Nat} {e : Pr} (hi : es[i]? = some e) (h1 : e.1 = v) (h2 : e.2 = u) : IsHalf es u v (2 * (i : Int) + 1) := by
 have hl := (List.getElem?_eq_some_iff.1 hi).1
 obtain ⟨e', a, he, ha⟩ := Cn (es := es) (h := 2 * (i : Int) + 1) (by omega) (by omega)
 rcases ha with ⟨q1, q2, q3⟩ | ⟨q1, q2, q3⟩
 ·omega
 ·obtain rfl : e' = i := by omega
  rw [hi] at he; cases he
  exact ⟨by omega, by omega, by omega, by omega⟩
theorem LC (u v : Int) : IsHalf es u v (rhalfF u v 0 es) ∨ (rhalfF u v 0 es = -1 ∧ ∀ h, ¬ IsHalf es u v h) := by
 rcases Gi (u := u) (v := v) (l := es) (k := 0) with ⟨i, e, hi, hc⟩ | ⟨h1, h2⟩
 ·left
  rw [Nat.zero_add] at hc
  rcases hc with ⟨a, b, c⟩ | ⟨a, b, c⟩
  ·rw [c]; exact Cm hi a b
  ·rw [c]; exact CZ hi a b
 ·refine .inr ⟨h1, fun h hh => ?_⟩
  obtain ⟨e, a, he, ha⟩ := Cn hh.lo hh.hi
  have := h2 a (List.mem_of_getElem? he)
  have f1 := hh.fr
  have f2 := hh.to
  rcases ha with ⟨q1, q2, q3⟩ | ⟨q1, q2, q3⟩
  ·exact this.1 ⟨by omega, by omega⟩
  ·exact this.2 ⟨by omega, by omega⟩
end
end Go.Fl

namespace Go.Fl
open Go
abbrev onePanic (v : Value) : List PanicEntry := [{ v := v, recovered := false }]
/-- It returns, or it panics with a value. -/
def RetP (w0 : World) (K : List Nat) (C D : Value → List Chunk → Prop) (e : Ending) (w : World) : Prop :=
 Ret w0 K C e w ∨ ∃ pv L, e = .panicked (onePanic pv) ∧ D pv L ∧ Own w0 K w L
section
variable {P : Program} {ops : Array Oper} {w0 w : World} {K : List Nat} {n : Nat} {ds : List Deferred} {E : Env} {L F : List Chunk} {o : Oper} {r : List Oper} {d : Nat} {x y z : Operand} {v u pv : Value} {Q : Exit → Act → World → Prop} {fn : Func} {C D : Value → List Chunk → Prop}
theorem Da {f : FuncId} {c : Code} {args : List Value} {R : Ending → World → Prop} (hf : P.funcs[f]? = some fn) (hb : fn.body = some c)
  (hn : fn.ntmps = n) (hle : Nat.ble args.length n = true) (hO : Own w K w L) (h : DC P w K n [] (bodyPost P fn R) c (argEnv 0 args) L) : Calls P f args.toArray w R := by
 refine calls_of_wp hf hb (h _ _ ⟨?_, rfl, fun t v hv ht => ?_⟩ hO)
 ·have := Nat.le_of_ble_eq_true hle; simp [hn]; omega
 ·obtain ⟨_, h2⟩ := Dk args 0 t v hv
  simp only [Nat.sub_zero] at h2
  have hlt : t < args.length := (List.getElem?_eq_some_iff.1 h2).1
  simp [Array.getElem?_append, hlt]
  simpa [List.getElem?_eq_getElem hlt] using h2
theorem IU {f : FuncId} {c : Code} {args : List Value} {R : Ending → World → Prop} (hf : P.funcs[f]? = some fn) (hb : fn.body = some c)
  (hn : fn.ntmps = n) (hle : Nat.ble args.length n = true) (hO : Own w K w L) (h : DC P w K n [] (bodyPostD P fn R) c (argEnv 0 args) L) : Calls P f args.toArray w R := by
 refine calls_of_wp_defers hf hb (h _ _ ⟨?_, rfl, fun t v hv ht => ?_⟩ hO)
 ·have := Nat.le_of_ble_eq_true hle; simp [hn]; omega
 ·obtain ⟨_, h2⟩ := Dk args 0 t v hv
  simp only [Nat.sub_zero] at h2
  have hlt : t < args.length := (List.getElem?_eq_some_iff.1 h2).1
  simp [Array.getElem?_append, hlt]
  simpa [List.getElem?_eq_getElem hlt] using h2
theorem Do {e : Exit} (he : e = .ret ∨ e = .normal) (h : Fin w0 K n [] (bodyPost P fn (Ret w0 K C) e) E L) : Fin w0 K n [] (bodyPost P fn (RetP w0 K C D) e) E L := by
 intro a w ha hO
 have := h a w ha hO
 rcases he with rfl | rfl
 ·obtain ⟨h1, v, h2, h3⟩ := this; exact ⟨h1, v, h2, .inl h3⟩
 ·obtain ⟨h1, v, h2, h3⟩ := this; exact ⟨h1, v, h2, .inl h3⟩
theorem Bn (hD : D pv L) : Fin w0 K n [] (bodyPost P fn (RetP w0 K C D) (.panic (onePanic pv))) E L :=
 fun a w ha hO => ⟨ha.defers, .inr ⟨pv, L, rfl, hD, hO⟩⟩
theorem Ay {k : Act → World → Prop} {c : List PanicEntry} (h : Fin w0 K n ds (Q (.panic c)) E L) : Fin w0 K n ds (Exit.then k Q (.panic c)) E L := h
theorem AA {id : Nat} {c : List PanicEntry} (h : Fin w0 K n ds (Q (.panic c)) E L) : Fin w0 K n ds (Exit.inBlock id Q (.panic c)) E L := h
theorem Seq.panic {t : TypeId} (ho : o.op = .panic x) (hx : ev n E x = some (.iface t v)) (hw : want n E ops o = some true) (h : Fin w0 K n ds (Q (.panic (onePanic (.iface t v)))) E L) :
  Seq P ops w0 K n ds Q (o :: r) E L := by
 intro a w ha hL
 unfold wpList
 rw [if_pos (BL hw ha)]
 refine .inl ?_
 unfold Oper.wp
 have : (execOp a.eval o).run P w = .halt (.panic (.iface t v)) w := by
  simp only [execOp, ho, ha.ev hx]; rfl
 rw [this, Oper.upon_panic]
 exact h a w ha hL
theorem DF {f : FuncId} {xs : Array Operand} {ts : Array Nat} {vs : List Value} {cap : Array Value} {K' : List Nat} {Lc : List Chunk} (hd : o.dst = some d) (hw : want n E ops o = some true) (hf : Ent P f) (ho : o.op = .call ⟨.value x, xs, ts⟩)
  (hx : ev n E x = some (.func (.func f) #[] cap)) (hxs : evs n E xs.toList = some vs) (hL : L.Perm (Lc ++ F)) (hK : ∀ k, k ∈ K' → k ∈ idsOf Lc)
  (hcon : ∀ w, Own w0 K w L → Calls P f (vs.toArray ++ cap) w (RetP w K' C D))
  (hp : ∀ pv L', D pv L' → Fin w0 K n ds (Q (.panic (onePanic pv))) E (L' ++ F))
  (h : ∀ v L', C v L' → Seq P ops w0 K n ds Q r ((d, v) :: E) (L' ++ F)) : Seq P ops w0 K n ds Q (o :: r) E L := by
 intro a w ha hw'
 unfold wpList
 rw [if_pos (BL hw ha)]
 refine .inl ?_
 unfold Oper.wp
 rw [El hf ho ha hx hxs, Oper.upon_enter]
 refine Calls.mono (hcon w hw') ?_
 rintro e w' (⟨v, L', rfl, hC, hO⟩ | ⟨pv, L', rfl, hD, hO⟩)
 ·rw [hd]
  exact h v L' hC _ _ (ha.put (some d) _) (Own.frame (hw'.perm hL.symm) hO hK)
 ·exact hp pv L' hD _ _ ha (Own.frame (hw'.perm hL.symm) hO hK)
/-- A call that may panic, without memory of ours. -/
theorem BO {f : FuncId} {xs : Array Operand} {ts : Array Nat} {vs : List Value} {cap : Array Value} {D : Value → Prop} {C : Value → Prop} (hd : o.dst = some d) (hw : want n E ops o = some true) (hf : Ent P f) (ho : o.op = .call ⟨.value x, xs, ts⟩)
  (hx : ev n E x = some (.func (.func f) #[] cap)) (hxs : evs n E xs.toList = some vs)
  (hcon : ∀ w, Own w0 K w L → Calls P f (vs.toArray ++ cap) w (RetP w [] (fun v M => M = [] ∧ C v) (fun v M => M = [] ∧ D v)))
  (hp : ∀ pv, D pv → Fin w0 K n ds (Q (.panic (onePanic pv))) E L)
  (h : ∀ v, C v → Seq P ops w0 K n ds Q r ((d, v) :: E) L) : Seq P ops w0 K n ds Q (o :: r) E L :=
 DF (Lc := []) (F := L) hd hw hf ho hx hxs (.refl _) (fun k hk => by simp at hk) hcon (fun pv L' ⟨e, hD⟩ => by subst e; exact hp pv hD) (fun v L' ⟨e, hC⟩ => by subst e; exact h v hC)
theorem Seq.defer {f : Fn} {cap : Array Value} {ts : Array Nat} (hd : o.dst = none) (hw : want n E ops o = some true) (ho : o.op = .defer ⟨.value x, #[], ts⟩) (hx : ev n E x = some (.func f #[] cap))
  (h : Seq P ops w0 K n ({ target := .fn f cap, args := #[] } :: ds) Q r E L) : Seq P ops w0 K n ds Q (o :: r) E L := by
 intro a w ha hL
 unfold wpList
 rw [if_pos (BL hw ha)]
 refine .inl ?_
 unfold Oper.wp
 have : (execOp a.eval o).run P w = .ok (.defer { target := .fn f cap, args := #[] }) w := by
  simp [execOp, ho, resolve, ha.ev hx, Deferred.ofValue]
 rw [this, Oper.upon_defer, hd]
 exact h _ _ ⟨ha.size, by show _ :: a.defers = _; rw [ha.defers], ha.has⟩ hL
end
end Go.Fl

namespace Go.Fl
open Go
/-- What recover hands back to a call that a frame of mode u has deferred, and that frame's mode behind it. -/
inductive Rcv : FrameMode → Value → FrameMode → Prop
 | some (v : Value) (older : List PanicEntry) : Rcv (.panicking ({ v := v, recovered := false } :: older)) v (.panicking ({ v := v, recovered := true } :: older))
 | none : Rcv .returning .nilIface .returning
section
variable {P : Program} {ops : Array Oper} {w0 w : World} {K : List Nat} {n : Nat} {ds : List Deferred} {E : Env} {L F : List Chunk} {o : Oper} {r : List Oper} {d : Nat} {x y z : Operand} {v u pv : Value} {Q : Exit → Act → World → Prop} {fn : Func} {C D : Value → List Chunk → Prop}
theorem Kc {m m' : FrameMode} (h : Rcv m v m') (c : Frame) (hc : c.mode = m) (cs : List Frame) :
  (recoverD (c :: cs) = some (v, { c with mode := m' } :: cs)) ∨ (recoverD (c :: cs) = none ∧ v = .nilIface ∧ { c with mode := m' } = c) := by
 cases h with
 | some v older => left; simp [recoverD, hc]
 | none =>
  right
  refine ⟨by simp [recoverD, hc], rfl, ?_⟩
  cases c; simp_all
theorem D3 {f : FuncId} {args : List Value} {o1 o2 : Oper} {id t t' : Nat} {ts : Array Nat} {rest : Code} {m m' : FrameMode} {R : Ending → World → Prop} (hf : P.funcs[f]? = some fn) (hb : fn.body = some (.seq (.region id #[o1, o2] false) rest))
  (hn : fn.ntmps = n) (hle : Nat.ble args.length n = true) (h1 : o1.op = .call ⟨.builtin .recover, #[], ts⟩) (g1 : o1.guard = none) (d1 : o1.dst = some t) (h2 : o2.op = .assign (.tmp t)) (g2 : o2.guard = none) (d2 : o2.dst = some t') (ht : Nat.blt t n = true)
  (hr : Rcv m v m') (hO : Own w K w L) (h : DC P w K n [] (bodyPost P fn R) rest ((t', v) :: (t, v) :: argEnv 0 args) L) :
  CallsD P f args.toArray m w (fun e u' w' => u' = m' ∧ R e w') := by
 have hsat : Sat n [] (argEnv 0 args) { tmps := args.toArray ++ Array.replicate (fn.ntmps - args.toArray.size) undef, defers := [] } := by
  refine ⟨?_, rfl, fun t v hv ht => ?_⟩
  ·have := Nat.le_of_ble_eq_true hle; simp [hn]; omega
  ·obtain ⟨_, h2⟩ := Dk args 0 t v hv
   simp only [Nat.sub_zero] at h2
   have hlt : t < args.length := (List.getElem?_eq_some_iff.1 h2).1
   simp [Array.getElem?_append, hlt]
   simpa [List.getElem?_eq_getElem hlt] using h2
 refine callsD_of_wpS hf hb fun c₀ cs hu => ?_
 generalize ({ tmps := args.toArray ++ Array.replicate (fn.ntmps - args.toArray.size) undef, defers := [] } : Act) = a at hsat
 refine wpS_seq (wpS_region ?_)
 have hl : List.range (#[o1, o2] : Array Oper).size = [0, 1] := rfl
 rw [hl]
 have hs1 : Sat n [] ((t, v) :: argEnv 0 args) (a.put (some t) v) := hsat.put (some t) v
 have hs2 : Sat n [] ((t', v) :: (t, v) :: argEnv 0 args) ((a.put (some t) v).put (some t') v) := hs1.put (some t') v
 have hw1 : Region.wanted o1 (yielded #[o1, o2] a.tmps) = true := by simp [Region.wanted, g1]
 have hw2 : Region.wanted o2 (yielded #[o1, o2] (a.put (some t) v).tmps) = true := by simp [Region.wanted, g2]
 have hx1 : (execOp a.eval o1).run P w = .ok .recover w := by simp [execOp, h1, resolve, invoke, builtin]
 have hev : (a.put (some t) v).eval (.tmp t) = v := hs1.ev (x := .tmp t) (by
  show (bif Nat.blt t n then Env.get ((t, v) :: argEnv 0 args) t else none) = some v
  rw [ht, Bq, if_pos rfl]; rfl)
 have hx2 : (execOp (a.put (some t) v).eval o2).run P w = .ok (.value v) w := by simp [execOp, h2, hev]
 have fin : rest.wpS P (bodyPostS P fn c₀ cs fun e u' w' => u' = m' ∧ R e w') ((a.put (some t) v).put (some t') v) ({ c₀ with mode := m' } :: cs) w := by
  refine wpS_of_wp (wp_mono (h _ _ hs2 hO) ?_)
  intro e a' w' hq
  cases e with
  | normal => obtain ⟨e1, v, e2, e3⟩ := hq; exact ⟨e1, m', rfl, v, e2, rfl, e3⟩
  | ret => obtain ⟨e1, v, e2, e3⟩ := hq; exact ⟨e1, m', rfl, v, e2, rfl, e3⟩
  | panic ch => obtain ⟨e1, e2⟩ := hq; exact ⟨e1, m', rfl, rfl, e2⟩
  | outgrown => exact ⟨m', rfl, hq⟩
  | exit id => exact hq.elim
  | goto l => exact hq.elim
 have hp1 : (#[o1, o2] : Array Oper)[0]? = some o1 := rfl
 have hp2 : (#[o1, o2] : Array Oper)[1]? = some o2 := rfl
 simp only [wpOpsS, hp1, hw1, if_true, hx1]
 rcases Kc hr c₀ hu cs with hre | ⟨hre, rfl, he⟩
 ·rw [hre]
  simp only [hp2, d1, hw2, if_true, hx2, Oper.upon_value, d2]
  exact fin
 ·rw [hre]
  simp only [hp2, d1, hw2, if_true, hx2, Oper.upon_value, d2]
  rw [he] at fin
  exact fin
/-- The end of a function that has deferred one closure. -/
theorem Fin.leaves {f : FuncId} {cap : List Value} {R : Ending → World → Prop} {m m' : FrameMode} {Lc : List Chunk} {K' : List Nat} {Cd : Value → List Chunk → Prop} (hf : Ent P f) (hm : m ≠ .run) (hs : settle m' = .returning)
  (hL : L.Perm (Lc ++ F)) (hK : ∀ k, k ∈ K' → k ∈ idsOf Lc) (hcl : ∀ w, Own w0 K w L → CallsD P f cap.toArray m w (fun e u' w' => u' = m' ∧ Ret w K' Cd e w'))
  (h : ∀ r L', Cd r L' → ∀ a w, Sat n [{ target := .fn (.func f) cap.toArray, args := #[] }] E a → Own w0 K w (L' ++ F) → ∃ v, (results fn a.tmps).run P w = .ok v w ∧ R (.returned v) w) :
  Fin w0 K n [{ target := .fn (.func f) cap.toArray, args := #[] }] (fun a w => Leaves P fn a.tmps R a.defers m w) E L := by
 intro a w ha hw
 obtain ⟨fn', h1, h2, h3⟩ := hf.go
 have h4 : ¬ fn'.name = "runtime.NumGoroutine" := by simpa using h2
 have h5 : ¬ fn'.body = none := fun e => by rw [e] at h3; cases h3
 show Leaves P fn a.tmps R a.defers m w
 rw [ha.defers]
 refine leaves_cons (f := f) (args := cap.toArray) hm (by simp [invoke, callFunc, h1, h4, h5]) ?_
 refine (hcl w hw).mono ?_
 rintro e u' w' ⟨rfl, v, L', rfl, hC, hO⟩
 show Leaves P fn a.tmps R [] (settle u') w'
 rw [hs]
 exact h v L' hC a w' ha (Own.frame (hw.perm hL.symm) hO hK)
theorem Li {R : Ending → World → Prop} (h : Fin w0 K n ds (fun a w => Leaves P fn a.tmps R a.defers .returning w) E L) : Fin w0 K n ds (bodyPostD P fn R .ret) E L := h
theorem HV {R : Ending → World → Prop} {c : List PanicEntry} (h : Fin w0 K n ds (fun a w => Leaves P fn a.tmps R a.defers (.panicking c) w) E L) : Fin w0 K n ds (bodyPostD P fn R (.panic c)) E L := h
/-- A variable of one cell is read. -/
theorem Ca {ty : TypeId} {g i t : Nat} {cs : Array Value} {w : World} (hg : w.heap[g]? = some (.cells cs t (0, 0))) (ht : aggT P ty = some false) (hv : cs[i]? = some v) : (loadVar ty ⟨g, i, none⟩).run P w = .ok v w := by
 have h1 : w.cell? ⟨g, i, none⟩ = some v := by rw [cell_of_row w g i cs t (0, 0) hg]; exact hv
 simp [loadVar, En ht, h1]
theorem FX {fn : Func} {p q : Tmp} {ty ty' : TypeId} (hr : fn.results = #[.cell p ty, .cell q ty']) {tmps : Array Value} {ad ad' : Addr} {v u : Value} {w : World} (hp : tmps.getD p undef = .pointer (some ad)) (hq : tmps.getD q undef = .pointer (some ad'))
  (h1 : (loadVar ty ad).run P w = .ok v w) (h2 : (loadVar ty' ad').run P w = .ok u w) : (results fn tmps).run P w = .ok (.tuple #[v, u]) w := by
 simp only [Array.getD_eq_getD_getElem?] at hp hq
 simp [results, hr, hp, hq, asAddr, h1, h2]
theorem Io {fn : Func} {p q s : Tmp} {ty ty' ty'' : TypeId} (hr : fn.results = #[.cell p ty, .cell q ty', .cell s ty'']) {tmps : Array Value} {ad ad' ad'' : Addr} {v u x : Value} {w : World} (hp : tmps.getD p undef = .pointer (some ad)) (hq : tmps.getD q undef = .pointer (some ad'))
  (hs : tmps.getD s undef = .pointer (some ad'')) (h1 : (loadVar ty ad).run P w = .ok v w) (h2 : (loadVar ty' ad').run P w = .ok u w) (h3 : (loadVar ty'' ad'').run P w = .ok x w) : (results fn tmps).run P w = .ok (.tuple #[v, u, x]) w := by
 simp only [Array.getD_eq_getD_getElem?] at hp hq hs
 simp [results, hr, hp, hq, hs, asAddr, h1, h2, h3]
end
end Go.Fl

namespace Go.Fl
open Go
section
variable {κ : Type} [DecidableEq κ]
def findM (x : κ) : List (κ × Value) → Nat → Option (Nat × Value)
 | [], _ => none
 | (y, v) :: r, i => if x = y then some (i, v) else findM x r (i + 1)
def lkM (m : List (κ × Value)) (x : κ) : Option Value := (findM x m 0).map (·.2)
def putM (x : κ) (v : Value) : List (κ × Value) → List (κ × Value)
 | [] => [(x, v)]
 | (y, u) :: r => if x = y then (x, v) :: r else (y, u) :: putM x v r
theorem Ez (x : κ) : ∀ (m : List (κ × Value)) (i : Nat), findM x m i = (findM x m 0).map fun p => (p.1 + i, p.2)
 | [], i => rfl
 | (y, v) :: r, i => by
  unfold findM
  split
  ·simp
  ·rw [Ez x r (i + 1), Ez x r (0 + 1)]
   cases findM x r 0 <;> simp; omega
@[simp] theorem lkM_nil (x : κ) : lkM ([] : List (κ × Value)) x = none := rfl
theorem CC (y : κ) (v : Value) (r : List (κ × Value)) (x : κ) : lkM ((y, v) :: r) x = if x = y then some v else lkM r x := by
 show (if x = y then some (0, v) else findM x r 1).map (·.2) = if x = y then some v else (findM x r 0).map (·.2)
 split
 ·rfl
 ·rw [Ez x r 1]; cases findM x r 0 <;> rfl
theorem DQ (x : κ) (v : Value) (y : κ) : ∀ m : List (κ × Value), lkM (putM x v m) y = if y = x then some v else lkM m y
 | [] => by simp [putM, CC]
 | (z, u) :: r => by
  unfold putM
  split
  ·rename_i h; subst h; rw [CC, CC]; split <;> rfl
  ·rename_i h
   rw [CC, CC, DQ x v y r]
   by_cases h1 : y = z
   ·subst h1; rw [if_pos rfl, if_pos rfl, if_neg (Ne.symm h)]
   ·rw [if_neg h1, if_neg h1]
theorem F2 (x : κ) (v : Value) : ∀ m : List (κ × Value), (putM x v m).map (·.1) = if (lkM m x).isSome then m.map (·.1) else m.map (·.1) ++ [x]
 | [] => by simp [putM]
 | (z, u) :: r => by
  unfold putM
  rw [CC]
  split
  ·rename_i h; simp [h]
  ·simp only [List.map_cons, F2 x v r]; split <;> simp
theorem lkM_mem {m : List (κ × Value)} {x : κ} {v : Value} (h : lkM m x = some v) : (x, v) ∈ m := by
 induction m with
 | nil => simp at h
 | cons p r ih =>
  obtain ⟨y, u⟩ := p
  rw [CC] at h
  split at h
  ·rename_i e; cases h; subst e; exact List.mem_cons_self ..
  ·exact List.mem_cons_of_mem _ (ih h)
theorem Hq {m : List (κ × Value)} {x : κ} (h : lkM m x = none) : x ∉ m.map (·.1) := by
 induction m with
 | nil => simp
 | cons p r ih =>
  obtain ⟨y, u⟩ := p
  rw [CC] at h
  split at h
  ·cases h
  ·rename_i e; simp only [List.map_cons, List.mem_cons, not_or]; exact ⟨e, ih h⟩
theorem LS {m : List (κ × Value)} (hn : (m.map (·.1)).Nodup) {x : κ} {v : Value} (h : (x, v) ∈ m) : lkM m x = some v := by
 induction m with
 | nil => cases h
 | cons p r ih =>
  obtain ⟨y, u⟩ := p
  simp only [List.map_cons, List.nodup_cons] at hn
  rw [CC]
  rcases List.mem_cons.1 h with h | h
  ·cases h; rw [if_pos rfl]
  ·rw [if_neg (fun e => hn.1 (List.mem_map.2 ⟨(x, v), h, e⟩))]; exact ih hn.2 h
theorem LG {x : κ} {v : Value} {m : List (κ × Value)} (hn : (m.map (·.1)).Nodup) : ((putM x v m).map (·.1)).Nodup := by
 rw [F2]
 split
 ·exact hn
 ·rename_i h
  rw [List.nodup_append]
  refine ⟨hn, by simp, ?_⟩
  intro a ha b hb e
  simp at hb; subst hb; subst e
  exact Hq (by simpa using h) ha
/-- What the model does with keys of a type, where they can be told apart at once. -/
structure KeyK (P : Program) (kt : TypeId) (enc : κ → Value) : Prop where
 chk : ∀ e x w, (Instr.checkKey e 10000 kt (enc x)).run P w = .ok () w
 find : ∀ x (l : List MapEntry) (m : List (κ × Value)) w, l.map (fun e => (e.key, e.val)) = m.map (fun p => (enc p.1, p.2)) → (Instr.findKey kt (enc x) l).run P w = .ok (findM x m 0) w
 same : ∀ x, Instr.sameBits 10000 (enc x) (enc x) = true
/-- A map of the call's own. -/
def mpc (enc : κ → Value) (g : Nat) (m : List (κ × Value)) : Chunk :=
 ⟨[g], fun w => ∃ es clock, w.heap[g]? = some (.map es clock) ∧ es.toList.map (fun e => (e.key, e.val)) = m.map (fun p => (enc p.1, p.2)) ∧ (es.toList.map (·.born)).Nodup ∧ ∀ e, e ∈ es.toList → e.born < clock,
  fun w w' h hh => by obtain ⟨es, c, h1, h2⟩ := hh; exact ⟨es, c, (h g (List.mem_cons_self ..)).trans h1, h2⟩⟩
theorem EK {w0 w : World} {K : List Nat} {L : List Chunk} {c : Chunk} (i : Nat) (h : L[i]? = some c) (hw : Own w0 K w L) : c.holds w := hw.holds c (List.mem_of_getElem? h)
variable {P : Program} {ops : Array Oper} {w0 w : World} {K : List Nat} {n : Nat} {ds : List Deferred} {E : Env} {L F : List Chunk} {o : Oper} {x y z : Operand} {v u : Value} {enc : κ → Value} {kt et : TypeId} {m : List (κ × Value)} {g : Nat}
theorem Dx {t : TypeId} (ho : o.op = .makeMap t none) : Rel P w0 K n ds E L o (fun v M => ∃ g, v = .map (some g) ∧ M = [mpc enc g []]) := by
 intro a w ha hw
 have hr : (execOp a.eval o).run P w = .ok (.value (.map (some w.heap.size))) (w.alloc (.map #[] 0)) := by
  simp only [execOp, ho]; rfl
 refine RunsTo.value hr ⟨_, ⟨w.heap.size, rfl, rfl⟩, ?_⟩
 refine ⟨rfl, rfl, rfl, Lo.refl _, by simp, fun k hk _ => ?_, by simp [mpc], fun g hg => ?_, fun g hg => ?_, fun c hc => ?_⟩
 ·simp only [World.alloc, Array.getElem?_push]; rw [if_neg (by omega)]
 ·simp [mpc] at hg; subst hg; exact .inr (Nat.le_refl _)
 ·simp [mpc] at hg; subst hg; simp
 ·simp at hc; subst hc
  exact ⟨#[], 0, by simp only [World.alloc, Array.getElem?_push]; rw [if_pos trivial], by simp, by simp, by simp⟩
theorem CW {t : TypeId} {ok : Bool} {k : κ} {zv : Value} (i : Nat) (hi : L[i]? = some (mpc enc g m)) (hK : KeyK P kt enc) (ho : o.op = .lookup t x y ok) (hx : ev n E x = some (.map (some g))) (hy : ev n E y = some (enc k))
  (ht : P.underlying t = some (.map kt et)) (hz : zeroT P et = some zv) (hv : (if ok then .tuple #[(lkM m k).getD zv, .bool (lkM m k).isSome] else (lkM m k).getD zv) = v) : Val P w0 K n ds E L o v := by
 intro a w ha hw
 obtain ⟨es, clock, h1, h2, _⟩ := EK i hi hw
 have hg : (getObj g).run P w = .ok (.map es clock) w := by simp [getObj, Sem.run, h1]
 have hf := hK.find k es.toList m w h2
 have hc := hK.chk es.isEmpty k w
 subst hv
 simp only [execOp, ho, ha.ev hx, ha.ev hy, Instr.lookup, Sem.run_bind, run_underlying ht, Result.andThen_ok, hg, hc, hf, Sem.run_pure]
 unfold lkM
 cases hfm : findM k m 0 with
 | none => simp only [Sem.run_bind, EH hz, Result.andThen_ok, Sem.run_pure]; cases ok <;> rfl
 | some p => simp only [Sem.run_bind, Result.andThen_ok, Sem.run_pure]; cases ok <;> rfl
theorem Et : ∀ {L : List Chunk} {i : Nat} {c c' : Chunk}, L[i]? = some c → (L.set i c').Perm (c' :: L.eraseIdx i)
 | [], i, c, c', h => by simp at h
 | y :: L, 0, c, c', h => by simp
 | y :: L, i + 1, c, c', h => by
  simp only [List.getElem?_cons_succ] at h
  simp only [List.set_cons_succ, List.eraseIdx_cons_succ]
  exact ((Et h).cons y).trans (.swap _ _ _)
theorem Kn {i : Nat} {c c' : Chunk} {ob : Obj} (hi : c.ids = [g]) (hi' : c'.ids = [g]) (hw : Own w0 K w L) (hl : L[i]? = some c) (hc : ∀ w' : World, w'.heap[g]? = some ob → c'.holds w') :
  Own w0 K { w with heap := w.heap.setIfInBounds g ob } (L.set i c') := by
 have hlt : g < w.heap.size := hw.lt g (F9.2 ⟨c, List.mem_of_getElem? hl, by rw [hi]; exact List.mem_cons_self ..⟩)
 have h1 : Own w [g] { w with heap := w.heap.setIfInBounds g ob } [c'] := by
  refine ⟨rfl, rfl, rfl, Lo.refl _, by simp, fun k hk hn => ?_, by simp [hi'], fun x hx => ?_, fun x hx => ?_, fun d hd => ?_⟩
  ·simp at hn
   show (w.heap.setIfInBounds g ob)[k]? = _
   rw [Array.getElem?_setIfInBounds_ne (by omega)]
  ·simp [hi'] at hx; subst hx; exact .inl (by simp)
  ·simp [hi'] at hx; subst hx; simpa using hlt
  ·simp at hd; subst hd
   refine hc _ ?_
   show (w.heap.setIfInBounds g ob)[g]? = _
   simp [hlt]
 exact (Own.frame (Lc := [c]) (hw.perm (AH hl).symm) h1 (fun k hk => by simp [hi] at hk ⊢; exact hk)).perm (Et hl)
theorem IL {k : κ} : ∀ {m : List (κ × Value)} {i j : Nat} {v : Value}, findM k m i = some (j, v) → i ≤ j ∧ m[j - i]? = some (k, v) ∧ ∀ u, putM k u m = m.set (j - i) (k, u)
 | [], i, j, v, h => by cases h
 | (y, x) :: r, i, j, v, h => by
  unfold findM at h
  split at h
  ·rename_i e; cases h; subst e
   refine ⟨Nat.le_refl _, by simp, fun u => by simp [putM]⟩
  ·rename_i e
   obtain ⟨h1, h2, h3⟩ := IL h
   refine ⟨by omega, ?_, fun u => ?_⟩
   ·rw [show j - i = (j - (i + 1)) + 1 by omega, List.getElem?_cons_succ]; exact h2
   ·unfold putM; rw [if_neg e, h3 u, show j - i = (j - (i + 1)) + 1 by omega, List.set_cons_succ]
theorem HD {k : κ} {u : Value} : ∀ {m : List (κ × Value)} {i : Nat}, findM k m i = none → putM k u m = m ++ [(k, u)]
 | [], i, h => rfl
 | (y, x) :: r, i, h => by
  unfold findM at h
  split at h
  ·cases h
  ·rename_i e
   unfold putM; rw [if_neg e, HD h]; rfl
theorem B3 {t : TypeId} {k : κ} (i : Nat) (hi : L[i]? = some (mpc enc g m)) (hK : KeyK P kt enc) (ho : o.op = .mapUpdate t x y z) (hx : ev n E x = some (.map (some g))) (hy : ev n E y = some (enc k)) (hz : ev n E z = some u)
  (ht : P.underlying t = some (.map kt et)) {L' : List Chunk} (hL' : L.set i (mpc enc g (putM k u m)) = L') : Sto P w0 K n ds E L o L' := by
 intro a w ha hw
 subst hL'
 obtain ⟨es, clock, h1, h2, h3, h4⟩ := EK i hi hw
 have hg : (getObj g).run P w = .ok (.map es clock) w := by simp [getObj, Sem.run, h1]
 have hf := hK.find k es.toList m w h2
 have hc := hK.chk false k w
 have hlen : es.toList.length = m.length := by have := congrArg List.length h2; simpa using this
 cases hfm : findM k m 0 with
 | none =>
  have hs : (setObj g (.map (es.push { key := enc k, val := u, born := clock }) (clock + 1))).run P w = .ok () { w with heap := w.heap.setIfInBounds g (.map (es.push { key := enc k, val := u, born := clock }) (clock + 1)) } := by simp [setObj, Sem.run, h1]
  refine ⟨_, ?_, Kn (ob := .map (es.push { key := enc k, val := u, born := clock }) (clock + 1)) rfl rfl hw hi fun w' hw' => ⟨_, _, hw', ?_, ?_, ?_⟩⟩
  ·simp only [execOp, ho, ha.ev hx, ha.ev hy, ha.ev hz, Instr.mapUpdate, Sem.run_bind, run_underlying ht, Result.andThen_ok, hg, hc, hf, hfm, hs, Sem.run_pure]
  ·rw [HD hfm, Array.toList_push, List.map_append, h2]; simp
  ·rw [Array.toList_push, List.map_append, List.nodup_append]
   refine ⟨h3, by simp, fun a ha b hb => ?_⟩
   simp at hb; subst hb
   obtain ⟨e, he, rfl⟩ := List.mem_map.1 ha
   have := h4 e he
   omega
  ·intro e he
   rw [Array.toList_push, List.mem_append] at he
   rcases he with he | he
   ·have := h4 e he; omega
   ·simp at he; subst he; exact Nat.lt_succ_self _
 | some p =>
  obtain ⟨j, v0⟩ := p
  obtain ⟨_, hmj, hput⟩ := IL hfm
  simp only [Nat.sub_zero] at hmj hput
  have hj : j < es.size := by have := (List.getElem?_eq_some_iff.1 hmj).1; rw [← hlen] at this; simpa using this
  have hkey : (es[j]'hj).key = enc k := by
   have h5 : (es.toList.map fun e => (e.key, e.val))[j]? = some ((es[j]'hj).key, (es[j]'hj).val) := by simp [hj]
   rw [h2] at h5
   simp [hmj] at h5
   exact h5.1.symm
  have hkt : (Instr.keyThatStays (((es[j]?).map (·.key)).getD (enc k)) (enc k)).run P w = .ok (enc k) w := by
   simp [Instr.keyThatStays, hj, hkey, hK.same k]
  have hs : (setObj g (.map (es.modify j fun e => { e with key := enc k, val := u }) clock)).run P w = .ok () { w with heap := w.heap.setIfInBounds g (.map (es.modify j fun e => { e with key := enc k, val := u }) clock) } := by simp [setObj, Sem.run, h1]
  have hml : (es.modify j fun e => { e with key := enc k, val := u }).toList = es.toList.set j { (es[j]'hj) with key := enc k, val := u } := by
   apply List.ext_getElem?
   intro q
   simp only [Array.getElem?_toList, Array.getElem?_modify, List.getElem?_set, Array.length_toList]
   by_cases hq : j = q
   ·subst hq; simp [hj]
   ·simp [hq]
  refine ⟨_, ?_, Kn (ob := .map (es.modify j fun e => { e with key := enc k, val := u }) clock) rfl rfl hw hi fun w' hw' => ⟨_, _, hw', ?_, ?_, ?_⟩⟩
  ·simp only [execOp, ho, ha.ev hx, ha.ev hy, ha.ev hz, Instr.mapUpdate, Sem.run_bind, run_underlying ht, Result.andThen_ok, hg, hc, hf, hfm, hkt, hs, Sem.run_pure]
  ·rw [hput, hml, List.map_set, h2, List.map_set]
  ·rw [hml, List.map_set]
   have : (es.toList.map (·.born)).set j (es[j]'hj).born = es.toList.map (·.born) := by
    apply List.ext_getElem?
    intro q
    rw [List.getElem?_set]
    split
    ·rename_i e; subst e; simp [hj]
    ·rfl
   rw [this]; exact h3
  ·intro e he
   rw [hml] at he
   rcases List.mem_or_eq_of_mem_set he with he | rfl
   ·exact h4 e he
   ·exact h4 (es[j]'hj) (by simp)
end
end Go.Fl

namespace Go.Fl
open Go
def encI (x : Int) : Value := .int .i64 x
def encP (p : Pr) : Value := .agg #[.int .i64 p.1, .int .i64 p.2]
section
variable {P : Program} {w : World} {kt : TypeId}
theorem keyI (h : P.underlying kt = some (.int .i64)) : KeyK P kt encI := by
 refine ⟨fun e x w => ?_, fun x l m w hl => ?_, fun x => by simp [Instr.sameBits, encI]⟩
 ·have : ∀ q, (Instr.checkKey e (q + 1) kt (.int .i64 x)).run P w = .ok () w := fun q => by simp [Instr.checkKey, run_underlying h]
  exact this 9999
 ·have key : ∀ (l : List MapEntry) (m : List (Int × Value)) (i : Nat), l.map (fun e => (e.key, e.val)) = m.map (fun p => (encI p.1, p.2)) → Instr.findNow (.int .i64) (encI x) l i = some (findM x m i) := by
   intro l
   induction l with
   | nil =>
    intro m i hl
    cases m with
    | nil => rfl
    | cons p m => simp at hl
   | cons e r ih =>
    intro m i hl
    cases m with
    | nil => simp at hl
    | cons p m =>
     obtain ⟨y, v⟩ := p
     simp only [List.map_cons, List.cons.injEq, Prod.mk.injEq] at hl
     obtain ⟨⟨h1, h2⟩, h3⟩ := hl
     simp only [Instr.findNow, h1, encI, Instr.sameNow, if_true]
     by_cases hxy : x = y
     ·subst hxy; simp [findM, h2]
     ·have : (x == y) = false := by simpa using hxy
      simp only [this, findM, if_neg hxy]
      exact ih m (i + 1) h3
  simp only [Instr.findKey, Sem.run_bind, run_underlying h, Result.andThen_ok, key l m 0 hl, Sem.run_pure]
theorem keyAsk {enc : Pr → Value} (hwide : (match P.underlying kt with | some (.array _ _) | some (.struct _) => true | _ => false) = true) (hc : ∀ e x w, (Instr.checkKey e 10000 kt (enc x)).run P w = .ok () w)
  (he : ∀ x y w, (Op.equal kt (enc x) (enc y)).run P w = .ok (decide (x = y)) w) (hs : ∀ x, Instr.sameBits 10000 (enc x) (enc x) = true) : KeyK P kt enc := by
 refine ⟨hc, fun x l m w hl => ?_, hs⟩
 have key : ∀ (l : List MapEntry) (m : List (Pr × Value)) (i : Nat), l.map (fun e => (e.key, e.val)) = m.map (fun p => (enc p.1, p.2)) → (Instr.findAsking kt (enc x) l i).run P w = .ok (findM x m i) w := by
  intro l
  induction l with
  | nil =>
   intro m i hl
   cases m with
   | nil => rfl
   | cons p m => simp at hl
  | cons e r ih =>
   intro m i hl
   cases m with
   | nil => simp at hl
   | cons p m =>
    obtain ⟨y, v⟩ := p
    simp only [List.map_cons, List.cons.injEq, Prod.mk.injEq] at hl
    obtain ⟨⟨h1, h2⟩, h3⟩ := hl
    simp only [Instr.findAsking, Sem.run_bind, h1, he, Result.andThen_ok]
    by_cases hxy : x = y
    ·subst hxy; simp [findM, h2]
    ·simp only [hxy, decide_false, Bool.false_eq_true, if_false, findM]
     exact ih m (i + 1) h3
 rw [run_findKey_eq w hwide]
 exact key l m 0 hl
theorem sameP (x : Pr) : Instr.sameBits 10000 (encP x) (encP x) = true := by simp [Instr.sameBits, encP]
theorem equalS (h : pairT P kt = true) (x y : Pr) (w : World) : (Op.equal kt (encP x) (encP y)).run P w = .ok (decide (x = y)) w := by
 have := Ik (P := P) (w := w) (a := x.1) (b := x.2) (c := y.1) (d := y.2) h 9998
 unfold Op.equal Op.maxDepth encP
 rw [this]
 congr 1
 exact decide_eq_decide.2 ⟨fun ⟨a, b⟩ => Prod.ext a b, fun e => by subst e; exact ⟨rfl, rfl⟩⟩
/-- An array of two integers. -/
def arr2T (P : Program) (t : TypeId) : Bool :=
 match P.underlying t with
 | some (.array 2 e) => intT P e && P.cellsOf e == 1 && (P.info? e).isSome
 | _ => false
theorem equalA (h : arr2T P kt = true) (x y : Pr) (w : World) : (Op.equal kt (encP x) (encP y)).run P w = .ok (decide (x = y)) w := by
 unfold arr2T at h
 split at h
 ·rename_i e hu
  simp only [Bool.and_eq_true, beq_iff_eq] at h
  obtain ⟨⟨h1, h2⟩, h3⟩ := h
  obtain ⟨i, hi⟩ := Option.isSome_iff_exists.1 h3
  have hr := run_equalIn_array (P := P) w 9999 #[.int .i64 x.1, .int .i64 x.2] #[.int .i64 y.1, .int .i64 y.2] hu hi
  unfold Op.equal Op.maxDepth encP
  rw [hr, h2]
  have hl : List.range 2 = [0, 1] := rfl
  rw [hl]
  simp only [Op.eqItems, Sem.run_bind]
  rw [BU (u := .int .i64 x.1) h1 (by rfl), Result.andThen_ok, BU (u := .int .i64 y.1) h1 (by rfl), Result.andThen_ok, DP 9998 h1, Result.andThen_ok]
  by_cases hac : x.1 = y.1
  ·have e1 : (x.1 == y.1) = true := by simpa using hac
   simp only [e1, Bool.not_true, Bool.false_eq_true, if_false, Sem.run_bind]
   rw [BU (u := .int .i64 x.2) h1 (by rfl), Result.andThen_ok, BU (u := .int .i64 y.2) h1 (by rfl), Result.andThen_ok, DP 9998 h1, Result.andThen_ok]
   by_cases hbd : x.2 = y.2
   ·have : x = y := Prod.ext hac hbd
    simp [this]
   ·have e2 : (x.2 == y.2) = false := by simpa using hbd
    have : x ≠ y := fun e => hbd (by rw [e])
    simp [e2, this]
  ·have e1 : (x.1 == y.1) = false := by simpa using hac
   have : x ≠ y := fun e => hac (by rw [e])
   simp [e1, this]
 ·cases h
end
end Go.Fl

namespace Go.Fl
open Go
def getI (l : List Int) (i : Int) : Int := (l[i.toNat]?).getD 0
structure St where
 pa : List Int
 he : List Int
 od : List Int
 oi : List Int
def St.enter (s : St) (v h d : Int) : St := { s with pa := s.pa.set v.toNat h, he := s.he.set v.toNat d, od := s.od ++ [v] }
def unset (l : List Int) : Nat := l.countP fun x => decide (x < 0)
structure Inv (N : Int) (m : Nat) (c : Nat) (s : St) : Prop where
 pal : s.pa.length = N.toNat
 hel : s.he.length = N.toNat
 oil : s.oi.length = m
 lo : ∀ (i : Nat) x, s.he[i]? = some x → -1 ≤ x
 hi : ∀ (i : Nat) x, s.he[i]? = some x → x + unset s.oi ≤ m
 few : s.od.length + unset s.oi ≤ c
section
variable {N : Int} {es : List Pr} {m c : Nat} {s s' s1 : St} {v h : Int} {l : List Int}
theorem getI_some {l : List Int} {i : Int} (h : i.toNat < l.length) : l[i.toNat]? = some (getI l i) := by
 unfold getI; rw [List.getElem?_eq_getElem h]; rfl
theorem Inv.enter {d p : Int} (hI : Inv N m c s) (h0 : -1 ≤ d) (hd : d + unset s.oi ≤ m) (hc : s.od.length + 1 + unset s.oi ≤ c) : Inv N m c (s.enter v p d) := by
 refine ⟨by simp [St.enter, hI.pal], by simp [St.enter, hI.hel], hI.oil, fun i x hx => ?_, fun i x hx => ?_, ?_⟩
 ·by_cases hi : v.toNat = i
  ·subst hi
   have hl : v.toNat < s.he.length := by have := (List.getElem?_eq_some_iff.1 hx).1; simpa [St.enter] using this
   simp only [St.enter, List.getElem?_set_self hl] at hx
   have := Option.some.inj hx; omega
  ·simp only [St.enter, List.getElem?_set_ne hi] at hx; exact hI.lo i x hx
 ·by_cases hi : v.toNat = i
  ·subst hi
   have hl : v.toNat < s.he.length := by have := (List.getElem?_eq_some_iff.1 hx).1; simpa [St.enter] using this
   simp only [St.enter, List.getElem?_set_self hl] at hx
   have := Option.some.inj hx
   show x + (unset s.oi : Int) ≤ m
   omega
  ·simp only [St.enter, List.getElem?_set_ne hi] at hx; exact hI.hi i x hx
 ·simp [St.enter]; omega
theorem Inv.at (hI : Inv N m c s) (h0 : 0 ≤ v) (h1 : v < N) : s.he[v.toNat]? = some (getI s.he v) ∧ -1 ≤ getI s.he v ∧ getI s.he v + unset s.oi ≤ m := by
 have hx := getI_some (l := s.he) (i := v) (by rw [hI.hel]; omega)
 exact ⟨hx, hI.lo _ _ hx, hI.hi _ _ hx⟩
/-- With one root more. -/
theorem Inv.more (hI : Inv N m c s) (k : Nat) : Inv N m (c + k) s := ⟨hI.pal, hI.hel, hI.oil, hI.lo, hI.hi, by have := hI.few; omega⟩
def start (N : Int) (m : Nat) : St := ⟨List.replicate N.toNat (-1), List.replicate N.toNat (-1), [], List.replicate m (-1)⟩
end
/-! ### the walk, computed -/
end Go.Fl

namespace Go.Fl
open Go
abbrev RL := List (Value × List Int)
def rowsC (t : Nat) (rs : RL) : List Chunk := rs.map fun p => slc p.1 t 1 (ints p.2)
def rowsV (rs : RL) : List Value := rs.map (·.1)
section
variable {P : Program} {w0 w : World} {K : List Nat} {n : Nat} {ds : List Deferred} {E : Env} {L F : List Chunk} {o : Oper} {x y z : Operand} {v u : Value} {t : Nat}
@[simp] theorem rowsV_length (rs : RL) : (rowsV rs).length = rs.length := by simp [rowsV]
theorem rowsV_set (rs : RL) (i : Nat) (p : Value × List Int) : (rowsV rs).toArray.setIfInBounds i p.1 = (rowsV (rs.set i p)).toArray := by
 apply Array.ext'; simp [rowsV, List.map_set]
theorem Il {rs : RL} {i : Nat} {p : Value × List Int} (h : rs[i]? = some p) : (rowsV rs).toArray[i]? = some p.1 := by simp [rowsV, h]
theorem IN {α β : Type} (f : α → β) : ∀ (l : List α) (i : Nat), (l.map f).eraseIdx i = (l.eraseIdx i).map f
 | [], i => by simp
 | x :: r, 0 => by simp
 | x :: r, i + 1 => by simp [IN f r i]
theorem GA {rs : RL} {i : Nat} {p : Value × List Int} (h : rs[i]? = some p) (F : List Chunk) : (F ++ rowsC t rs).Perm (slc p.1 t 1 (ints p.2) :: (F ++ rowsC t (rs.eraseIdx i))) := by
 have h1 : (rowsC t rs)[i]? = some (slc p.1 t 1 (ints p.2)) := by simp [rowsC, h]
 have h2 := AH h1
 have h3 : (rowsC t rs).eraseIdx i = rowsC t (rs.eraseIdx i) := IN _ _ _
 rw [h3] at h2
 exact ((List.Perm.refl F).append h2).trans List.perm_middle
theorem rows_set {rs : RL} {i : Nat} (p : Value × List Int) (h : i < rs.length) (F : List Chunk) : (slc p.1 t 1 (ints p.2) :: (F ++ rowsC t (rs.eraseIdx i))).Perm (F ++ rowsC t (rs.set i p)) := by
 have h1 : (rs.set i p)[i]? = some p := by rw [List.getElem?_set_self h]
 have h2 := GA (t := t) h1 F
 have h3 : (rs.set i p).eraseIdx i = rs.eraseIdx i := by rw [List.eraseIdx_set_eq]
 rw [h3] at h2
 exact h2.symm
theorem own_nils (k : Nat) (hw : Own w0 K w F) : Own w0 K w (F ++ rowsC t (List.replicate k (.slice none 0 0, []))) := by
 induction k generalizing F with
 | zero => simpa [rowsC] using hw
 | succ k ih =>
  have h1 := Bd (t := t) (m := 1) (ih hw)
  refine h1.perm ?_
  simp only [List.replicate_succ, rowsC, List.map_cons, ints, List.map_nil]
  exact List.perm_middle
/-- A row reads so. -/
theorem Fg {rs : RL} {i : Nat} {p : Value × List Int} (hw : Own w0 K w (F ++ rowsC t rs)) (h : rs[i]? = some p) (hf : p.2.length ≤ 17592186044416) : SlV w p.1 p.2 :=
 Cc (hw.perm (GA h F).symm) 0 rfl hf
/-! ### old memory that stays, though some is written -/
def Off (va : Value) (es : List Pr) (K : List Nat) : Prop := es ≠ [] → ∀ ad l c, va = .slice (some ad) l c → ad.block ∉ K
theorem PrV.keepK {va : Value} {es : List Pr} (h : PrV w0 va es) (ho : Off va es K) (hw : Own w0 K w L) : PrV w va es := by
 obtain ⟨A, cap, rfl, hr, h1, h2, h3⟩ := h
 refine ⟨A, cap, rfl, ?_, h1, h2, h3⟩
 by_cases he : es = []
 ·subst he; intro j u hj; simp [prs] at hj
 ·exact hr.keep (fun ad hA => ho he ad _ _ (by rw [hA])) hw
theorem Off.step {va : Value} {es : List Pr} (h : PrV w0 va es) (ho : Off va es K) (hw : Own w0 K w L) : Off va es (idsOf L) := by
 intro he ad l c hva hin
 obtain ⟨A, cap, rfl, hr, h1, h2, h3⟩ := h
 cases hva
 obtain ⟨e, he0⟩ : ∃ e, es[0]? = some e := ⟨_, List.getElem?_eq_getElem (List.length_pos_iff.2 he)⟩
 obtain ⟨ad', ha, hc, _⟩ := hr.pair he0
 cases ha
 have hlt := World.block_lt_of_cell? w0 _ hc
 have hb : (ad.add (0 * 2)).block = ad.block := by unfold Addr.add; split <;> rfl
 rw [hb] at hlt
 rcases hw.fresh _ hin with h5 | h5
 ·exact ho he ad _ _ rfl h5
 ·omega
end
/-! ### the document's forms of the walk's state -/
def refH (he : List Int) : List Int := he.map fun x => if x < 0 then 0 else x
def seenB (he : List Int) : List Value := he.map fun x => .bool (decide (0 ≤ x))
@[simp] theorem refH_length (he : List Int) : (refH he).length = he.length := by simp [refH]
@[simp] theorem seenB_length (he : List Int) : (seenB he).length = he.length := by simp [seenB]
/-! ### what the walk keeps -/
end Go.Fl

namespace Go.Fl
open Go
def RotOk (N : Int) (es : List Pr) (ls : List (List Int)) : Prop :=
 Vld N es ∧ (ls.length : Int) = N ∧ ∀ (v : Nat) l, ls[v]? = some l → (∀ u, u ∈ l → ∃ h, IsHalf es v u h) ∧ l.Nodup ∧ (l.length : Int) = cnt es v
def RotR (es : List Pr) (ls rs : List (List Int)) : Prop :=
 rs.length = ls.length ∧ ∀ (v : Nat) l r, ls[v]? = some l → rs[v]? = some r → r.length = l.length ∧ ∀ (j : Nat) u h, l[j]? = some u → r[j]? = some h → IsHalf es v u h
section
variable {w0 w : World} {L0 L : List Chunk}
theorem FN {ad : Addr} {v : Value} (hO : Own w0 [] w L0) (hc : w0.cell? ad = some v) : w.cell? ad = some v ∧ ad.block ∉ idsOf L0 := by
 have hlt := World.block_lt_of_cell? w0 _ hc
 refine ⟨by rw [hO.oldCell hlt (by simp)]; exact hc, fun hm => ?_⟩
 rcases hO.fresh _ hm with h | h
 ·simp at h
 ·omega
theorem FA {ad : Addr} {v : Value} (hO : Own w0 [] w L0) (hc : w0.cell? ad = some v) : Has w (idsOf L0) L ad v := has_old (FN hO hc).1 (FN hO hc).2
theorem hass_base {ad : Addr} {i : Nat} {x y : Value} (hO : Own w0 [] w L0) (h1 : w0.cell? (ad.add i) = some x) (h2 : w0.cell? (ad.add (i + 1)) = some y) : Hass w (idsOf L0) L (ad.add i) [x, y] := by
 have hb : (ad.add i).block = ad.block := by unfold Addr.add; split <;> rfl
 exact Ck (FN hO h1).1 (FN hO h2).1 (by rw [← hb]; exact (FN hO h1).2)
theorem Hg {va : Value} {es : List Pr} {w' : World} (h : PrV w0 va es) (hO : Own w0 [] w L0) (hw : Own w (idsOf L0) w' L) : PrV w' va es :=
 (h.keep0 hO).keepK (Off.step h (by intro _ _ _ _ _ hm; simp at hm) hO) hw
end
/-- The map from pairs of ends to half-edges, of the first i edges. -/
def HalfM (es : List Pr) (i : Nat) (f : Pr → Option Value) : Prop := ∀ p v, f p = some v ↔ ∃ h, v = .int .i64 h ∧ IsHalf es p.1 p.2 h ∧ h < 2 * (i : Int)
theorem L3 (es : List Pr) : HalfM es 0 (fun _ => none) := by
 intro p v
 constructor
 ·intro h; cases h
 ·rintro ⟨h, _, h1, h2⟩; have := h1.1; omega
theorem L4 {N : Int} {es : List Pr} (hV : Vld N es) {i : Nat} {e : Pr} (he : es[i]? = some e) {f : Pr → Option Value} (hf : HalfM es i f) :
  HalfM es (i + 1) (fun p => if p = (e.2, e.1) then some (.int .i64 (2 * (i : Int) + 1)) else if p = (e.1, e.2) then some (.int .i64 (2 * (i : Int))) else f p) := by
 have ho := hV.ok i e he
 have hne : e.1 ≠ e.2 := by have := ho.lt; omega
 have h1 := Cm he (u := e.1) (v := e.2) rfl rfl
 have h2 := CZ he (u := e.2) (v := e.1) rfl rfl
 intro p v
 dsimp only
 split
 ·rename_i hp; subst hp
  constructor
  ·intro h; cases h; exact ⟨_, rfl, h2, by omega⟩
  ·rintro ⟨h, rfl, h3, h4⟩; rw [h3.uniq hV h2]
 ·rename_i hp1
  split
  ·rename_i hp; subst hp
   constructor
   ·intro h; cases h; exact ⟨_, rfl, h1, by omega⟩
   ·rintro ⟨h, rfl, h3, h4⟩; rw [h3.uniq hV h1]
  ·rename_i hp2
   rw [hf p v]
   constructor
   ·rintro ⟨h, rfl, h3, h4⟩; exact ⟨h, rfl, h3, by omega⟩
   ·rintro ⟨h, rfl, h3, h4⟩
    refine ⟨h, rfl, h3, ?_⟩
    obtain ⟨h5, h6, h7, h8⟩ := h3
    rcases (show h < 2 * (i : Int) ∨ h = 2 * (i : Int) ∨ h = 2 * (i : Int) + 1 by omega) with h9 | h9 | h9
    ·exact h9
    ·subst h9
     obtain ⟨_, _, e1, e2⟩ := h1
     exact absurd (Prod.ext (h7.symm.trans e1) (h8.symm.trans e2)) hp2
    ·subst h9
     obtain ⟨_, _, e1, e2⟩ := h2
     exact absurd (Prod.ext (h7.symm.trans e1) (h8.symm.trans e2)) hp1
end Go.Fl

namespace Go.Fl
open Go
section
variable {P : Program} {ops : Array Oper} {w0 w : World} {K : List Nat} {n : Nat} {ds : List Deferred} {E : Env} {L F : List Chunk} {o : Oper} {x y z : Operand} {v u : Value}
theorem n_make2 {t e m b : Nat} {zv : Value} {len cap : Int} {l k : Nat} {cs : Array Value} (ho : o.op = .makeSlice t x y) (hx : ev n E x = some (.int .i64 len)) (hy : ev n E y = some (.int .i64 cap))
  (ht : P.underlying t = some (.slice e)) (hm : sizeT P e = some m) (hb : bytesT P e = some b) (hz : zeroT P e = some zv) (hl : len = (l : Nat)) (hk : cap = (k : Nat)) (hlk : l ≤ k) (hbytes : b * k ≤ 281474976710656) (h63 : k ≤ 9223372036854775807)
  (hc : madeCells zv.cells (k * m) = cs) : New P n ds E o (.sl l k) e cs := by
 intro a w ha
 subst hl hk hc
 obtain ⟨i, hi, h1, h2, h3⟩ := Fz hm hb hz
 subst h1 h2
 have := run_make (P := P) w t e i zv ht hi h3 .i64 .i64 l k (by omega) (by omega) (by rw [← Int.natCast_mul]; omega) (by omega)
 simp only [Int.toNat_natCast] at this
 simp [execOp, ho, ha.ev hx, ha.ev hy, this, NewV.val]
theorem BJ {i j t l c : Nat} {ad : Addr} {xs : List Int} {q : Int} (hi : L[i]? = some (slc (.slice (some ad) l c) t 1 (ints xs))) (hj : xs[j]? = some q) (hf : xs.length ≤ 17592186044416) : Has w0 K L (ad.add j) (.int .i64 q) := by
 intro w hw
 obtain ⟨A, cap, e, hr, _⟩ := Cc hw i hi hf
 cases e
 obtain ⟨ad', e, hc⟩ := hr.int hj
 cases e; exact hc
theorem DC.slcs {Q : Exit → Act → World → Prop} {cd : Code} {i t : Nat} {xs : List Int} (hi : L[i]? = some (slc v t 1 (ints xs))) (hf : xs.length ≤ 17592186044416)
  (h : ∀ A c, v = .slice A xs.length c → (xs ≠ [] → ∃ ad, A = some ad) → DC P w0 K n ds Q cd E L) : DC P w0 K n ds Q cd E L := by
 intro a w ha hw
 obtain ⟨A, cap, e, hr, _⟩ := Cc hw i hi hf
 refine h A cap e (fun hne => ?_) a w ha hw
 obtain ⟨q, hq⟩ : ∃ q, xs[0]? = some q := ⟨_, List.getElem?_eq_getElem (List.length_pos_iff.2 hne)⟩
 obtain ⟨ad, e, _⟩ := hr.int hq
 exact ⟨ad, e⟩
theorem CE {i j t l c : Nat} {ad : Addr} {vs : List Value} {q : Value} (hi : L[i]? = some (slc (.slice (some ad) l c) t 1 vs)) (hj : vs[j]? = some q) : Has w0 K L (ad.add j) q := by
 intro w hw
 obtain ⟨A, len, cap, e, _, hr, _⟩ := BV (hw.perm (AH hi).symm)
 cases e
 obtain ⟨ad', e, hc⟩ := hr j q hj
 cases e; exact hc
theorem Ea {Q : Exit → Act → World → Prop} {cd : Code} {i t : Nat} {vs : List Value} (hi : L[i]? = some (slc v t 1 vs))
  (h : ∀ A c, v = .slice A vs.length c → (vs ≠ [] → ∃ ad, A = some ad) → DC P w0 K n ds Q cd E L) : DC P w0 K n ds Q cd E L := by
 intro a w ha hw
 obtain ⟨A, len, cap, e, hlen, hr, _⟩ := BV (hw.perm (AH hi).symm)
 refine h A cap (by rw [hlen, Nat.mul_one]; exact e) (fun hne => ?_) a w ha hw
 obtain ⟨q, hq⟩ : ∃ q, vs[0]? = some q := ⟨_, List.getElem?_eq_getElem (List.length_pos_iff.2 hne)⟩
 obtain ⟨ad, e, _⟩ := hr 0 q hq
 exact ⟨ad, e⟩
theorem lsv_own {g t t' N : Nat} {rs : RL} (hw : Own w0 K w (blk g t' (rowsV rs).toArray :: rowsC t rs)) (hN : rs.length = N) (hb : N ≤ 17592186044416) (hf : ∀ p, p ∈ rs → p.2.length ≤ 17592186044416) : LsV w (.slice (some ⟨g, 0, none⟩) N N) (rs.map Prod.snd) := by
 subst hN
 refine ⟨_, _, by simp; exact ⟨rfl, rfl⟩, fun i l hi => ?_, by simp, by omega, by simpa using hb⟩
 rw [List.getElem?_map, Option.map_eq_some_iff] at hi
 obtain ⟨p, hp, rfl⟩ := hi
 have h1 := hw.holds _ (List.mem_cons_self ..)
 refine ⟨_, p.1, rfl, ?_, Fg (F := [blk g t' (rowsV rs).toArray]) hw hp (hf p (List.mem_of_getElem? hp))⟩
 rw [AC, cell_of_row w g i _ t' (0, 0) h1]
 exact Il hp
end
/-- A rotation by half-edges. -/
def RotL (N : Int) (es : List Pr) (rs : List (List Int)) : Prop :=
 Vld N es ∧ (rs.length : Int) = N ∧ ∀ (v : Nat) l, rs[v]? = some l → (∀ h, h ∈ l → 0 ≤ h ∧ h < es.length * 2 ∧ fromV es h = v) ∧ l.Nodup ∧ (l.length : Int) = cnt es v
theorem GB {N : Int} {es : List Pr} {ls rs : List (List Int)} (ho : RotOk N es ls) (hr : RotR es ls rs) : RotL N es rs := by
 obtain ⟨hV, hN, ho⟩ := ho
 obtain ⟨hl, hr⟩ := hr
 refine ⟨hV, by rw [hl]; exact hN, fun v r hv => ?_⟩
 obtain ⟨l, hlv⟩ : ∃ l, ls[v]? = some l := ⟨_, List.getElem?_eq_getElem (by have := (List.getElem?_eq_some_iff.1 hv).1; omega)⟩
 obtain ⟨h1, h2, h3⟩ := ho v l hlv
 obtain ⟨h4, h5⟩ := hr v l r hlv hv
 have h6 : ∀ (j : Nat) h, r[j]? = some h → ∃ u, l[j]? = some u ∧ IsHalf es v u h := fun j h hj => by
  obtain ⟨u, hu⟩ : ∃ u, l[j]? = some u := ⟨_, List.getElem?_eq_getElem (by have := (List.getElem?_eq_some_iff.1 hj).1; omega)⟩
  exact ⟨u, hu, h5 j u h hu hj⟩
 refine ⟨fun h hh => ?_, ?_, by rw [h4]; exact h3⟩
 ·obtain ⟨j, hj⟩ := List.mem_iff_getElem?.1 hh
  obtain ⟨u, _, h7⟩ := h6 j h hj
  exact ⟨h7.lo, h7.hi, h7.fr⟩
 ·rw [List.nodup_iff_pairwise_ne, List.pairwise_iff_getElem]
  intro i j hi hj hij e
  have hi' : r[i]? = some r[i] := List.getElem?_eq_getElem hi
  have hj' : r[j]? = some r[j] := List.getElem?_eq_getElem hj
  obtain ⟨u, hu, h7⟩ := h6 i _ hi'
  obtain ⟨u', hu', h8⟩ := h6 j _ hj'
  have : u = u' := by rw [← h7.to, ← h8.to, e]
  subst this
  have := (List.getElem?_inj (by omega) h2).1 (hu.trans hu'.symm)
  omega
end Go.Fl

namespace Go.Fl
open Go
section
variable {P : Program} {ops : Array Oper} {w0 w : World} {K : List Nat} {n : Nat} {ds : List Deferred} {E : Env} {L F : List Chunk} {o : Oper} {x y z : Operand} {v u : Value}
theorem G3 {t tb i j l c : Nat} {ad : Addr} {xs : List Int} {q : Int} (hi : L[i]? = some (slc (.slice (some ad) l c) tb 1 (ints xs))) (ho : o.op = .store t x y) (hx : ev n E x = some (.pointer (some (ad.add j))))
  (hy : ev n E y = some (.int .i64 q)) (hs : sizeT P t = some 1) (hj : j < xs.length) : Sto P w0 K n ds E L o (L.set i (slc (.slice (some ad) l c) tb 1 (ints (xs.set j q)))) := by
 intro a w ha hw
 have hw1 := hw.perm (AH hi).symm
 rcases B8 hw1 with ⟨e, _, _⟩ | ⟨g, len, cap, sp, e, h1, h2, h3, h4, hO⟩
 ·cases e
 ·cases e
  simp at h1
  subst h1
  rw [AC] at hx
  have hb := hO.holds _ (List.mem_cons_self ..)
  have hlt : j < (ints xs ++ sp).toArray.size := by simp; omega
  have hcell : w.cell? ⟨g, j, none⟩ = some ((ints xs ++ sp).toArray[j]) := by rw [cell_of_row w g j _ tb (0, 0) hb]; exact Array.getElem?_eq_getElem hlt
  have hfr := frozen_of_row w g j _ tb hb
  have hst : (store (Addr.add ⟨g, j, none⟩ 0) (Value.int .i64 q)).run P w = .ok () (w.setCell ⟨g, j, none⟩ (.int .i64 q)) := by
   rw [Bf, run_store P w _ _ _ rfl]
   simp only [Nat.add_zero, hcell, hfr]; simp
  refine ⟨w.setCell ⟨g, j, none⟩ (.int .i64 q), ?_, ?_⟩
  ·simp [execOp, ho, ha.ev hx, ha.ev hy, Instr.storeAt, Instr.sureAddr, storeVar, Value.cells, BG hs, storeCells, hst]
  ·have h5 := hO.set j (.int .i64 q)
   rw [row_set hj] at h5
   refine (BY (m := 1) (vs := ints (xs.set j q)) (by simp) (by decide) h2 h3 (by simp at h4 ⊢; omega) ?_ h5).perm (Et hi)
   simp
theorem Seq.slcs {Q : Exit → Act → World → Prop} {cd : List Oper} {i t : Nat} {xs : List Int} (hi : L[i]? = some (slc v t 1 (ints xs))) (hf : xs.length ≤ 17592186044416)
  (h : ∀ A c, v = .slice A xs.length c → (xs ≠ [] → ∃ ad, A = some ad) → Seq P ops w0 K n ds Q cd E L) : Seq P ops w0 K n ds Q cd E L := by
 intro a w ha hw
 obtain ⟨A, cap, e, hr, _⟩ := Cc hw i hi hf
 refine h A cap e (fun hne => ?_) a w ha hw
 obtain ⟨q, hq⟩ : ∃ q, xs[0]? = some q := ⟨_, List.getElem?_eq_getElem (List.length_pos_iff.2 hne)⟩
 obtain ⟨ad, e, _⟩ := hr.int hq
 exact ⟨ad, e⟩
theorem Fin.slcs {Qb : Act → World → Prop} {i t : Nat} {xs : List Int} (hi : L[i]? = some (slc v t 1 (ints xs))) (hf : xs.length ≤ 17592186044416)
  (h : ∀ A c, v = .slice A xs.length c → (xs ≠ [] → ∃ ad, A = some ad) → Fin w0 K n ds Qb E L) : Fin w0 K n ds Qb E L := by
 intro a w ha hw
 obtain ⟨A, cap, e, hr, _⟩ := Cc hw i hi hf
 refine h A cap e (fun hne => ?_) a w ha hw
 obtain ⟨q, hq⟩ : ∃ q, xs[0]? = some q := ⟨_, List.getElem?_eq_getElem (List.length_pos_iff.2 hne)⟩
 obtain ⟨ad, e, _⟩ := hr.int hq
 exact ⟨ad, e⟩
end
end Go.Fl

namespace Go.Fl
open Go Go.Proofs
theorem Ja (a b c d : Int) (w : World) : Calls Tryz.prog 35 #[.agg #[.int .i64 a, .int .i64 b], .agg #[.int .i64 c, .int .i64 d]] w (Ret w [] fun v L => L = [] ∧ ∃ r, v = .bool r ∧ (r = true ↔ Lex (a, b) (c, d))) := by
 refine At (args := [_, _]) (L := []) Tryz.func35 rfl Tryz.ntmps35 rfl (Own.start _ _) ?_
 refine Zs ?_
 refine Zw (AR rfl rfl rfl) fun g2 => ?_
 refine Zw (AR rfl rfl rfl) fun g3 => ?_
 refine Za ?_
 refine Zx <| Zs ?_
 refine Zf AZ ?_
 refine Zl AI ?_
 refine Zf AZ ?_
 refine Zl AI ?_
 refine Zc ?_
 refine Zm ?_
 refine Seq.split 10 rfl (fun k1_5 => ?_) (fun k1_5 => ?_)
 ·refine Zk ?_
  refine Zk ?_
  refine Zk ?_
  refine Zk ?_
  refine Zk ?_
  refine Zk ?_
  refine Zk ?_
  refine Zk ?_
  refine Zk ?_
  refine Zk ?_
  refine Zk ?_
  refine Zk ?_
  refine Zt ?_
  refine Za ?_
  refine Zx <| DC.ret ?_
  refine Fin.weak (E' := [(4, _)]) ⟨rfl, trivial⟩ .nil ?_
  refine Ak (.inl rfl) rfl rfl ?_
  refine ⟨rfl, _, rfl, ?_⟩
  unfold Lex
  first
  | (simp at k1_5 ⊢; omega)
  | (simp at k1_5 k1_11 ⊢; omega)
 ·refine Zf AZ ?_
  refine Zl AI ?_
  refine Zf AZ ?_
  refine Zl AI ?_
  refine Zo (AN rfl rfl rfl) ?_
  refine Zm ?_
  refine Seq.split 16 rfl (fun k1_11 => ?_) (fun k1_11 => ?_)
  ·refine Zf Bi ?_
   refine Zl AI ?_
   refine Zf Bi ?_
   refine Zl AI ?_
   refine Zc ?_
   refine Zt ?_
   refine Zg ?_
   refine Za ?_
   refine Zx <| DC.ret ?_
   refine Fin.weak (E' := [(4, _)]) ⟨rfl, trivial⟩ .nil ?_
   refine Ak (.inl rfl) rfl rfl ?_
   refine ⟨rfl, _, rfl, ?_⟩
   unfold Lex
   first
   | (simp at k1_5 ⊢; omega)
   | (simp at k1_5 k1_11 ⊢; omega)
  ·refine Zk ?_
   refine Zk ?_
   refine Zk ?_
   refine Zk ?_
   refine Zk ?_
   refine Zg ?_
   refine Zg ?_
   refine Za ?_
   refine Zx <| DC.ret ?_
   refine Fin.weak (E' := [(4, _)]) ⟨rfl, trivial⟩ .nil ?_
   refine Ak (.inl rfl) rfl rfl ?_
   refine ⟨rfl, _, rfl, ?_⟩
   unfold Lex
   first
   | (simp at k1_5 ⊢; omega)
   | (simp at k1_5 k1_11 ⊢; omega)
theorem BW {N : Int} {es : List Pr} {va : Value} {w : World} (hg : PrV w va es) :
  Calls Tryz.prog 14 #[.agg #[.int .i64 N, va]] w (Ret w [] fun v L => L = [] ∧ ∃ b, v = .bool b ∧ (b = true ↔ Vld N es)) := by
 obtain ⟨A, cap, rfl, hr, hlc, hcm, hl⟩ := hg
 refine At (args := [_]) (L := []) Tryz.func14 rfl Tryz.ntmps14 rfl (Own.start _ _) ?_
 refine Zs ?_
 refine Zw (AR rfl rfl rfl) fun g1 => ?_
 refine Za ?_
 refine Zx <| DC.seq <| Zs ?_
 refine Zf Bz ?_
 refine Zl AI ?_
 refine Zc ?_
 refine Zm ?_
 refine Seq.split 9 rfl (fun k1_3 => ?_) (fun k1_3 => ?_)
 ·refine Zk ?_
  refine Zk ?_
  refine Zk ?_
  refine Zt ?_
  refine Zm ?_
  refine Zk ?_
  refine Zk ?_
  refine Zk ?_
  refine Zk ?_
  refine Zt ?_
  refine Zx ?_
  refine AM rfl ?_
  refine Zs ?_
  refine Za ?_
  refine Zx <| DC.ret <| Aa ?_
  refine Fin.weak (E' := [(2, _)]) ⟨rfl, trivial⟩ .nil ?_
  refine Ak (.inl rfl) rfl rfl ?_
  exact ⟨rfl, false, rfl, by simp; intro h; have := h.lo; simp at k1_3; omega⟩
 ·refine Zf Bz ?_
  refine Zl AI ?_
  refine Zo (BC rfl rfl rfl) ?_
  refine Zg ?_
  refine Zm ?_
  refine Seq.split 14 rfl (fun k1_8 => ?_) (fun k1_8 => ?_)
  ·refine Zk ?_
   refine Zk ?_
   refine Zk ?_
   refine Zk ?_
   refine Zt ?_
   refine Zx ?_
   refine AM rfl ?_
   refine Zs ?_
   refine Za ?_
   refine Zx <| DC.ret <| Aa ?_
   refine Fin.weak (E' := [(2, _)]) ⟨rfl, trivial⟩ .nil ?_
   refine Ak (.inl rfl) rfl rfl ?_
   exact ⟨rfl, false, rfl, by simp; intro h; have := h.hi; simp at k1_8; omega⟩
  ·refine Zf AS ?_
   refine Zl Bj ?_
   refine Zn Tryz.underlying22 ?_
   refine Zo (BC rfl rfl rfl) ?_
   refine Zg ?_
   refine Zx ?_
   refine Zd (fun c1 => ?_) fun c1 => ?_
   ·refine Zs ?_
    refine Za ?_
    refine Zx <| DC.ret <| Aa ?_
    refine Fin.weak (E' := [(2, _)]) ⟨rfl, trivial⟩ .nil ?_
    refine Ak (.inl rfl) rfl rfl ?_
    exact ⟨rfl, false, rfl, by simp; intro h; have := h.few; simp at c1; omega⟩
   ·refine DC.skip <| Fin.then <| DC.seq <| Zs ?_
    refine Za ?_
    refine Zx <| DC.block ?_
    refine DC.loop (ι := Nat) (fun i => i ≤ es.length ∧ (∀ (j : Nat) e, j < i → es[j]? = some e → OkE N e) ∧ (∀ (j : Nat) a b, j + 1 < i → es[j]? = some a → es[j + 1]? = some b → Lex a b))
     (fun i => [(1, .pointer (some ⟨g1, 0, none⟩)), (3, .int .i64 i)])
     (fun i => [blk g1 24 #[.int .i64 N, .slice A es.length cap]]) (fun i => es.length - i) 0 ⟨Nat.zero_le _, fun _ _ h => absurd h (Nat.not_lt_zero _), fun _ _ _ h => absurd h (Nat.not_lt_zero _)⟩
     ⟨rfl, rfl, trivial⟩ (.cons 0 rfl .nil) ?_
    rintro i ⟨hi, hok, hup⟩
    refine DC.seq <| Zs ?_
    refine Zm ?_
    refine Zf AS ?_
    refine Zl Bj ?_
    refine Zn Tryz.underlying22 ?_
    refine Zc ?_
    refine Zx ?_
    refine Zd (fun c4 => ?_) fun c4 => ?_
    ·have hlt : i < es.length := by simpa using c4
     obtain ⟨e, he⟩ : ∃ e, es[i]? = some e := ⟨_, List.getElem?_eq_getElem hlt⟩
     obtain ⟨ad, rfl, hU, hV⟩ := hr.pair he
     refine DC.skip <| Fin.then <| DC.seq <| DC.block <| Zs ?_
     refine Zf AS ?_
     refine Zl Bj ?_
     refine Zm ?_
     refine Zo (AE (ad' := ad.add (i * 2)) rfl rfl rfl Tryz.underlying22 AW (by omega) (by omega) rfl) ?_
     refine Zu (Aw (vs := [_, _]) rfl rfl Cr AW rfl (Ck hU hV (by simp))) ?_
     refine Zw (AO rfl CK rfl) fun g4 => ?_
     refine Zy (Az (cs' := #[_, _]) rfl rfl rfl AW rfl (Nat.le_of_ble_eq_true rfl) rfl) ?_
     refine Zx <| DC.seq <| Zs ?_
     refine Zf AZ ?_
     refine Zl AI ?_
     refine Zc ?_
     refine Zm ?_
     refine Seq.split 35 rfl (fun k7_3 => ?_) (fun k7_3 => ?_)
     ·refine Zk ?_
      refine Zk ?_
      refine Zk ?_
      refine Zk ?_
      refine Zk ?_
      refine Zt ?_
      refine Zm ?_
      refine Zk ?_
      refine Zk ?_
      refine Zk ?_
      refine Zk ?_
      refine Zk ?_
      refine Zt ?_
      refine Zx ?_
      refine AM rfl ?_
      refine Zs ?_
      refine Za ?_
      refine Zx <| DC.ret <| Aa <| Ae <| Aa <| Aa <| Ae <| Aa ?_
      refine Fin.weak (E' := [(2, _)]) ⟨rfl, trivial⟩ .nil ?_
      refine Ak (.inl rfl) rfl rfl ?_
      exact ⟨rfl, false, rfl, by simp; intro h; have := (h.ok i e he).lo; simp at k7_3; omega⟩
     ·refine Zf AZ ?_
      refine Zl AI ?_
      refine Zf Bi ?_
      refine Zl AI ?_
      refine Zo (Cj rfl rfl rfl) ?_
      refine Zg ?_
      refine Zm ?_
      refine Seq.split 42 rfl (fun k7_10 => ?_) (fun k7_10 => ?_)
      ·refine Zk ?_
       refine Zk ?_
       refine Zk ?_
       refine Zk ?_
       refine Zk ?_
       refine Zt ?_
       refine Zx ?_
       refine AM rfl ?_
       refine Zs ?_
       refine Za ?_
       refine Zx <| DC.ret <| Aa <| Ae <| Aa <| Aa <| Ae <| Aa ?_
       refine Fin.weak (E' := [(2, _)]) ⟨rfl, trivial⟩ .nil ?_
       refine Ak (.inl rfl) rfl rfl ?_
       exact ⟨rfl, false, rfl, by simp; intro h; have := (h.ok i e he).lt; simp at k7_10; omega⟩
      ·refine Zf Bi ?_
       refine Zl AI ?_
       refine Zf Bz ?_
       refine Zl AI ?_
       refine Zo (Cj rfl rfl rfl) ?_
       refine Zg ?_
       refine Zx ?_
       refine Zd (fun c7 => ?_) fun c7 => ?_
       ·refine Zs ?_
        refine Za ?_
        refine Zx <| DC.ret <| Aa <| Ae <| Aa <| Aa <| Ae <| Aa ?_
        refine Fin.weak (E' := [(2, _)]) ⟨rfl, trivial⟩ .nil ?_
        refine Ak (.inl rfl) rfl rfl ?_
        exact ⟨rfl, false, rfl, by simp; intro h; have := (h.ok i e he).hi; simp at c7; omega⟩
       ·refine DC.skip <| Fin.then <| Zs ?_
        refine Zm ?_
        refine Zo (BC rfl rfl rfl) ?_
        refine Zx ?_
        refine Zd (fun c9 => ?_) fun c9 => ?_
        ·have hpos : 0 < i := by simpa using c9
         obtain ⟨d, hd⟩ : ∃ d, es[i - 1]? = some d := ⟨_, List.getElem?_eq_getElem (by omega)⟩
         obtain ⟨ad', h', hU', hV'⟩ := hr.pair hd
         cases h'
         have h2a : 0 ≤ e.1 := by simpa using k7_3
         have h2b : e.1 < e.2 := by simpa using k7_10
         have h2c : e.2 < N := by simpa using c7
         have hii : ((i : Int) - 1).toNat = i - 1 := by omega
         have fin : Lex d e → (∀ (j : Nat) x, j < i + 1 → es[j]? = some x → OkE N x) ∧ (∀ (j : Nat) a b, j + 1 < i + 1 → es[j]? = some a → es[j + 1]? = some b → Lex a b) := by
          intro hlex
          constructor
          ·intro j x hj hx
           rcases Nat.lt_succ_iff_lt_or_eq.1 hj with hj | rfl
           ·exact hok j x hj hx
           ·rw [he] at hx; cases hx; exact ⟨h2a, h2b, h2c⟩
          ·intro j a b hj ha hb
           rcases Nat.lt_succ_iff_lt_or_eq.1 hj with hj | hj
           ·exact hup j a b hj ha hb
           ·obtain rfl : j = i - 1 := by omega
            rw [hd] at ha; cases ha
            rw [show i - 1 + 1 = i by omega, he] at hb; cases hb
            exact hlex
         have bad : ¬ Lex d e → ¬ Vld N es := fun hn h => hn (h.up (i - 1) d e hd (by rw [show i - 1 + 1 = i by omega]; exact he))
         refine DC.seq ?_
         refine AD (cl := [.q, .v, .q, .q, .q, .v, .v, .r, .q]) (A := [0, 1, 0, 4, 15, 31, 0, 127, 255]) (order := [0, 1, 2, 3, 4, 5, 6, 7, 8]) [] mixed (by kernel_rfl) (fun w hw => hw.pick .nil) ?_
         refine Yf AS ?_
         refine Yl Bj ?_
         refine Ym ?_
         refine Yo rfl (BA rfl rfl rfl (by omega)) ?_
         refine Yo rfl (AE (ad' := ad.add ((i - 1) * 2)) rfl rfl rfl Tryz.underlying22 AW (by omega) (by omega) (by rw [hii])) ?_
         refine Aj rfl rfl rfl rfl (Aw (vs := [_, _]) rfl rfl Cr AW rfl (Ck hU' hV' (by simp))) ?_
         refine Aj rfl rfl rfl rfl (Aw (vs := [_, _]) rfl rfl Cr AW rfl (Am rfl)) ?_
         refine Flow.rel0 rfl rfl rfl rfl (Ao en35 rfl rfl rfl (fun w' hw => Ja d.1 d.2 e.1 e.2 w')) ?_
         rintro _ ⟨lb, rfl, hlb⟩
         refine Yo rfl (AY rfl rfl) ?_
         refine Flow.end rfl ?_
         simp only [zq, zr]
         refine Fin.then <| Zs ?_
         refine Zm ?_
         refine Zo (Bg rfl rfl) ?_
         refine Zx ?_
         refine Zd (fun c11 => ?_) fun c11 => ?_
         ·refine Zs ?_
          refine Za ?_
          refine Zx <| DC.ret <| Ae <| Aa <| Aa <| Ae <| Aa ?_
          refine Fin.weak (E' := [(2, _)]) ⟨rfl, trivial⟩ .nil ?_
          refine Ak (.inl rfl) rfl rfl ?_
          exact ⟨rfl, false, rfl, by simp; exact bad (fun h => by rw [hlb.2 h] at c11; simp at c11)⟩
         ·refine DC.skip <| Fin.inBlock <| Fin.then <| DC.region ?_
          refine Zm ?_
          refine Zp ?_
          refine Za ?_
          refine Seq.nil ?_
          obtain ⟨f1, f2⟩ := fin (hlb.1 (by simpa using c11))
          refine Fin.again (i + 1) (by omega) ⟨by omega, f1, f2⟩ ⟨rfl, rfl, trivial⟩ (.cons 1 rfl .nil)
        ·refine DC.skip <| Fin.inBlock <| Fin.then <| DC.region ?_
         refine Zm ?_
         refine Zp ?_
         refine Za ?_
         refine Seq.nil ?_
         have h0 : i = 0 := by simp at c9; omega
         subst h0
         have h2a : 0 ≤ e.1 := by simpa using k7_3
         have h2b : e.1 < e.2 := by simpa using k7_10
         have h2c : e.2 < N := by simpa using c7
         refine Fin.again 1 (by omega) ⟨by omega, ?_, ?_⟩ ⟨rfl, rfl, trivial⟩ (.cons 1 rfl .nil)
         ·intro j x hj hx
          obtain rfl : j = 0 := by omega
          rw [he] at hx; cases hx; exact ⟨h2a, h2b, h2c⟩
         ·intro j a b hj; omega
    ·refine DC.exit <| Ad <| Ad <| Ag <| Fin.then <| Zs ?_
     refine Za ?_
     refine Zx <| DC.ret ?_
     refine Fin.weak (E' := [(2, _)]) ⟨rfl, trivial⟩ .nil ?_
     refine Ak (.inl rfl) rfl rfl ?_
     have hie : i = es.length := by simp at c4; omega
     subst hie
     refine ⟨rfl, true, rfl, by simp; exact ⟨by simpa using k1_3, by simpa using k1_8, by simp at c1; omega, fun j e hj => hok j e (List.getElem?_eq_some_iff.1 hj).1 hj, fun j a b ha hb => hup j a b (List.getElem?_eq_some_iff.1 hb).1 ha hb⟩⟩
theorem Jb {N : Int} {es : List Pr} {va : Value} {e : Pr} {w : World} (hg : PrV w va es) (hV : Vld N es) :
  Calls Tryz.prog 33 #[.agg #[.int .i64 N, va], .agg #[.int .i64 e.1, .int .i64 e.2]] w (Ret w [] fun v L => L = [] ∧ ∃ r, v = .int .i64 r ∧ (0 ≤ r ↔ e ∈ es)) := by
 have hg0 := hg
 have hfew := hV.few
 obtain ⟨A, cap, rfl, hr, hlc, hcm, hl⟩ := hg
 refine At (args := [_, _]) (L := []) Tryz.func33 rfl Tryz.ntmps33 rfl (Own.start _ _) ?_
 refine Zs ?_
 refine Zw (AR rfl rfl rfl) fun g2 => ?_
 refine Zw (AR rfl rfl rfl) fun g3 => ?_
 refine Za ?_
 refine Zx <| Zs ?_
 refine Zu (Aw (vs := [_, _]) rfl rfl Bo Bh rfl (Am rfl)) ?_
 refine Seq.rel0 rfl rfl (Ao Ma rfl rfl rfl (fun w' hw => BW (hg0.keep0 hw))) ?_
 rintro _ ⟨b, rfl, hb⟩
 refine Za ?_
 refine Zx <| DC.seq <| Zs ?_
 refine Zm ?_
 refine Zo (Bg rfl rfl) ?_
 refine Zx ?_
 refine Zd (fun c2 => ?_) fun c2 => ?_
 ·refine Zs ?_
  refine Za ?_
  refine Zx <| DC.ret <| Aa ?_
  refine Fin.weak (E' := [(4, _)]) ⟨rfl, trivial⟩ .nil ?_
  refine Ak (.inl rfl) rfl rfl ?_
  rw [hb.2 hV] at c2
  simp at c2
 ·refine DC.skip <| Fin.then <| DC.seq <| Zs ?_
  refine Za ?_
  refine Zx <| DC.block ?_
  refine DC.loop (ι := Nat) (fun i => i ≤ es.length ∧ ∀ (j : Nat), j < i → es[j]? ≠ some e)
   (fun i => [(2, .pointer (some ⟨g2, 0, none⟩)), (3, .pointer (some ⟨g3, 0, none⟩)), (6, .int .i64 i)])
   (fun i => [blk g3 43 #[.int .i64 e.1, .int .i64 e.2], blk g2 24 #[.int .i64 N, .slice A es.length cap]]) (fun i => es.length - i) 0 ⟨Nat.zero_le _, fun _ h => absurd h (Nat.not_lt_zero _)⟩
   ⟨rfl, rfl, rfl, trivial⟩ (Pick.all _) ?_
  rintro i ⟨hi, hno⟩
  refine DC.seq <| Zs ?_
  refine Zm ?_
  refine Zf AS ?_
  refine Zl Bj ?_
  refine Zn Tryz.underlying22 ?_
  refine Zc ?_
  refine Zx ?_
  refine Zd (fun c5 => ?_) fun c5 => ?_
  ·have hlt : i < es.length := by simpa using c5
   obtain ⟨x, hx⟩ : ∃ x, es[i]? = some x := ⟨_, List.getElem?_eq_getElem hlt⟩
   obtain ⟨ad, rfl, hU, hVe⟩ := hr.pair hx
   refine DC.skip <| Fin.then <| DC.seq <| DC.block <| DC.seq ?_
   refine AD (cl := [.q, .v, .q, .q, .q, .v, .q, .v, .q, .q, .q, .v, .q, .q, .q, .v, .q, .v, .q, .q]) (A := [0, 1, 0, 7, 15, 31, 0, 64, 255, 511, 1023, 2047, 1023, 8191, 16383, 32767, 1023, 66559, 262143, 524287]) (order := [0, 1, 2, 3, 4, 5, 6, 7, 8, 9, 10, 11, 12, 13, 14, 15, 16, 17, 18, 19]) [] mixed (by kernel_rfl) (fun w hw => hw.pick .nil) ?_
   refine Yf AS ?_
   refine Yl Bj ?_
   refine Ym ?_
   refine Yo rfl (AE (ad' := ad.add (i * 2)) rfl rfl rfl Tryz.underlying22 AW (by omega) (by omega) rfl) ?_
   refine Yo rfl (Bk (ad' := ad.add (i * 2)) rfl rfl AZ (by simp [Addr.add])) ?_
   refine Aj rfl rfl rfl rfl (Ai rfl rfl AI (Ar hU)) ?_
   refine Yf AZ ?_
   refine Yl AI ?_
   refine Yo rfl (AN rfl rfl rfl) ?_
   refine Ym ?_
   refine Flow.split 27 rfl (fun k7_9 => ?_) (fun k7_9 => ?_)
   ·refine Yf AS ?_
    refine Yl Bj ?_
    refine Ym ?_
    refine Yo rfl (AE (ad' := ad.add (i * 2)) rfl rfl rfl Tryz.underlying22 AW (by omega) (by omega) rfl) ?_
    refine Yo rfl (Bk (ad' := ad.add (i * 2 + 1)) rfl rfl Bi (BS _ _ _ (by decide))) ?_
    refine Aj rfl rfl rfl rfl (Ai rfl rfl AI (Ar hVe)) ?_
    refine Yf Bi ?_
    refine Yl AI ?_
    refine Yo rfl (AN rfl rfl rfl) ?_
    refine Yo rfl (Bb rfl rfl rfl) ?_
    refine Flow.end rfl ?_
    simp only [zq, zr]
    refine Fin.then ?_
    refine Zd (fun c7 => ?_) fun c7 => ?_
    ·refine Zs ?_
     refine Zm ?_
     refine Za ?_
     refine Zx <| DC.ret <| Ae <| Aa <| Aa <| Ae <| Aa ?_
     refine Fin.weak (E' := [(4, _)]) ⟨rfl, trivial⟩ .nil ?_
     refine Ak (.inl rfl) rfl rfl ?_
     refine ⟨rfl, _, rfl, ?_⟩
     have : x = e := Prod.ext (by simpa using k7_9) (by simpa using c7)
     subst this
     exact ⟨fun _ => List.mem_of_getElem? hx, fun _ => by omega⟩
    ·refine DC.skip <| Fin.inBlock <| Fin.then <| DC.region ?_
     refine Zm ?_
     refine Zp ?_
     refine Za ?_
     refine Seq.nil ?_
     refine Fin.again (i + 1) (by omega) ⟨by omega, fun j hj => ?_⟩ ⟨rfl, rfl, rfl, trivial⟩ (Pick.all _)
     rcases Nat.lt_succ_iff_lt_or_eq.1 hj with hj | rfl
     ·exact hno j hj
     ·rw [hx]
      intro h
      have := Option.some.inj h
      subst this
      first
      | (simp at c7; done)
      | (simp at k7_9; done)
   ·refine Yk ?_
    refine Yk ?_
    refine Yk ?_
    refine Yk ?_
    refine Yk ?_
    refine Yk ?_
    refine Yk ?_
    refine Yk ?_
    refine Yk ?_
    refine Yo rfl (Ba rfl rfl rfl) ?_
    refine Flow.end rfl ?_
    simp only [zq, zr]
    refine Fin.then ?_
    refine AT rfl ?_
    refine DC.skip <| Fin.inBlock <| Fin.then <| DC.region ?_
    refine Zm ?_
    refine Zp ?_
    refine Za ?_
    refine Seq.nil ?_
    refine Fin.again (i + 1) (by omega) ⟨by omega, fun j hj => ?_⟩ ⟨rfl, rfl, rfl, trivial⟩ (Pick.all _)
    rcases Nat.lt_succ_iff_lt_or_eq.1 hj with hj | rfl
    ·exact hno j hj
    ·rw [hx]
     intro h
     have := Option.some.inj h
     subst this
     first
     | (simp at c7; done)
     | (simp at k7_9; done)
  ·refine DC.exit <| Ad <| Ad <| Ag <| Fin.then <| Zs ?_
   refine Za ?_
   refine Zx <| DC.ret ?_
   refine Fin.weak (E' := [(4, _)]) ⟨rfl, trivial⟩ .nil ?_
   refine Ak (.inl rfl) rfl rfl ?_
   have hie : i = es.length := by simp at c5; omega
   subst hie
   refine ⟨rfl, _, rfl, ?_⟩
   refine ⟨fun h => by omega, fun h => ?_⟩
   obtain ⟨j, hj⟩ := List.mem_iff_getElem?.1 h
   exact absurd hj (hno j (List.getElem?_eq_some_iff.1 hj).1)
theorem I9 {h : Int} {w : World} (h0 : 0 ≤ h) (h1 : h ≤ 1000000000) : Calls Tryz.prog 151 #[.int .i64 h] w (Ret w [] fun v L => L = [] ∧ v = .int .i64 (tw h)) := by
 refine At (args := [_]) (L := []) Tryz.func151 rfl Tryz.ntmps151 rfl (Own.start _ _) ?_
 refine Zs ?_
 refine Za ?_
 refine Zx <| DC.seq <| Zs ?_
 refine Zm ?_
 refine Zo (Is rfl rfl rfl (by omega) (by omega)) ?_
 refine Zo (AN rfl rfl rfl) ?_
 refine Zx ?_
 refine Zd (fun c1 => ?_) fun c1 => ?_
 ·refine Zs ?_
  refine Zm ?_
  refine Zp ?_
  refine Za ?_
  refine Zx <| DC.ret <| Aa ?_
  refine Ak (.inl rfl) rfl rfl ?_
  exact ⟨rfl, by unfold tw; rw [if_pos (by simpa using c1)]⟩
 ·refine DC.skip <| Fin.then <| Zs ?_
  refine Zm ?_
  refine Zo (BA rfl rfl rfl (by omega)) ?_
  refine Za ?_
  refine Zx <| DC.ret ?_
  refine Ak (.inl rfl) rfl rfl ?_
  exact ⟨rfl, by unfold tw; rw [if_neg (by simpa using c1)]⟩
structure CoI where
 i : Nat
 v : Value
theorem Jc {N : Int} {es : List Pr} {va : Value} {w : World} (hg : PrV w va es) :
  Calls Tryz.prog 11 #[.agg #[.int .i64 N, va]] w (Ret w [] fun r L => ∃ A l c, r = .agg #[.int .i64 N, .slice A l c] ∧ L = [slc (.slice A l c) 43 2 (prs es)]) := by
 obtain ⟨A, cap, rfl, hr, hlc, hcm, hl⟩ := hg
 refine At (args := [_]) (L := []) Tryz.func11 rfl Tryz.ntmps11 rfl (Own.start _ _) ?_
 refine Zs ?_
 refine Zw (AR rfl rfl rfl) fun g1 => ?_
 refine Zw (AO rfl JW rfl) fun g2 => ?_
 refine Zx <| Zs ?_
 refine Za ?_
 refine Zx <| DC.seq <| Zs ?_
 refine Za ?_
 refine Zx <| DC.block ?_
 refine DC.own (fun w hw => Bd (t := 43) (m := 2) hw) ?_
 refine DC.loop (ι := CoI) (fun j => j.i ≤ es.length)
  (fun j => [(1, .pointer (some ⟨g1, 0, none⟩)), (2, .pointer (some ⟨g2, 0, none⟩)), (3, j.v), (4, .int .i64 j.i)])
  (fun j => slc j.v 43 2 (prs (es.take j.i)) :: [blk g2 24 #[.int .i64 0, .slice none 0 0], blk g1 24 #[.int .i64 N, .slice A es.length cap]]) (fun j => es.length - j.i) ⟨0, .slice none 0 0⟩ (Nat.zero_le _)
  ⟨rfl, rfl, rfl, rfl, trivial⟩ (.cons 0 rfl (Pick.all _)) ?_
 rintro ⟨i, v⟩ hi
 dsimp only at hi ⊢
 refine DC.seq <| Zs ?_
 refine Zm ?_
 refine Zf AS ?_
 refine Zl Bj ?_
 refine Zn Tryz.underlying22 ?_
 refine Zc ?_
 refine Zx ?_
 refine Zd (fun c3 => ?_) fun c3 => ?_
 ·have hlt : i < es.length := by simpa using c3
  obtain ⟨e, he⟩ : ∃ e, es[i]? = some e := ⟨_, List.getElem?_eq_getElem hlt⟩
  obtain ⟨ad, rfl, hU, hVe⟩ := hr.pair he
  refine DC.skip <| Fin.then <| DC.seq <| DC.block <| DC.region ?_
  refine Zm ?_
  refine Zf AS ?_
  refine Zl Bj ?_
  refine Zm ?_
  refine Zo (AE (ad' := ad.add (i * 2)) rfl rfl rfl Tryz.underlying22 AW (by omega) (by omega) rfl) ?_
  refine Zu (Aw (vs := [_, _]) rfl rfl Cr AW rfl (Ck hU hVe (by simp))) ?_
  refine Zw (AP (cs := #[_, _]) rfl rfl Tryz.underlying22 AW CK rfl (by decide) (by decide) rfl rfl) fun g18 => ?_
  refine Seq.gen rfl rfl (AG rfl rfl rfl Tryz.underlying22 AW by43 CK rfl (by decide) (by decide) (F := [blk g2 24 #[.int .i64 0, .slice none 0 0], blk g1 24 #[.int .i64 N, .slice (some ad) es.length cap]]) (fun w hw => hw.pick (.cons 1 rfl (.cons 1 rfl (.cons 1 rfl .nil)))) (.inl ⟨_, _, rfl, Am rfl⟩) rfl (GE [e]) (by simp; omega)) ?_
  rintro v19 _ rfl
  refine Za ?_
  refine Seq.nil <| Fin.inBlock <| Fin.then <| DC.region ?_
  refine Zm ?_
  refine Zp ?_
  refine Za ?_
  refine Seq.nil ?_
  refine Fin.again ⟨i + 1, v19⟩ (by dsimp only; omega) (by dsimp only; omega) ⟨rfl, rfl, rfl, rfl, trivial⟩ (.cons' 0 rfl (by dsimp only; rw [List.take_add_one, he, Ch]; rfl) (Pick.all _))
 ·refine DC.exit <| Ad <| Ad <| Ag <| Fin.then <| DC.seq ?_
  have hie : i = es.length := by simp at c3; omega
  subst hie
  rw [List.take_length]
  refine DC.shape (t := 43) (m := 2) (vs := prs es) 0 rfl ?_
  rintro ⟨Av, lv, cv, rfl⟩
  refine DC.region ?_
  refine Zf Bz ?_
  refine Zl AI ?_
  refine Zm ?_
  refine Zo (AB (cs := #[_, _]) rfl rfl JN rfl rfl) ?_
  refine Zy (Az (cs' := #[_, _]) rfl rfl rfl Bh rfl (Nat.le_of_ble_eq_true rfl) rfl) ?_
  refine Zx <| DC.ret ?_
  refine Cl (cs := #[_, _]) (.inl rfl) rfl rfl Bo Bh ?_
  exact ⟨[slc (.slice Av lv cv) 43 2 (prs es)], fun w hw => hw.pick (.cons 0 rfl .nil), _, _, _, rfl, rfl⟩
theorem Fb (a : Int) (w : World) : Calls Tryz.prog 85 #[.int .i64 a] w (Ret w [] fun v L => L = [] ∧ ∃ b, v = .bool b ∧ (b = true ↔ Fits a)) := by
 refine At (args := [_]) (L := []) Tryz.func85 rfl Tryz.ntmps85 rfl (Own.start _ _) ?_
 refine Zs ?_
 refine Za ?_
 refine Zx <| Zs ?_
 refine Zm ?_
 refine Zo (Cj rfl rfl rfl) ?_
 refine Zm ?_
 refine Seq.split 5 rfl (fun k1_2 => ?_) (fun k1_2 => ?_)
 ·refine Zm ?_
  refine Zo (Iv rfl rfl rfl) ?_
  refine Zt ?_
  refine Za ?_
  refine Zx <| DC.ret ?_
  refine Ak (.inl rfl) rfl rfl ?_
  refine ⟨rfl, _, rfl, ?_⟩
  unfold Fits
  simp_all
  try omega
 ·refine Zk ?_
  refine Zk ?_
  refine Zg ?_
  refine Za ?_
  refine Zx <| DC.ret ?_
  refine Ak (.inl rfl) rfl rfl ?_
  refine ⟨rfl, _, rfl, ?_⟩
  unfold Fits
  simp_all
  try omega
theorem K9 (a b c d : Int) (w : World) : Calls Tryz.prog 86 #[.agg #[.int .i64 a, .int .i64 b], .agg #[.int .i64 c, .int .i64 d]] w (Ret w [] fun v L => L = [] ∧ ∃ r, v = .bool r ∧ (r = true ↔ Lex (a, b) (c, d))) := by
 refine At (args := [_, _]) (L := []) Tryz.func86 rfl Tryz.ntmps86 rfl (Own.start _ _) ?_
 refine Zs ?_
 refine Zw (AR rfl rfl rfl) fun g2 => ?_
 refine Zw (AR rfl rfl rfl) fun g3 => ?_
 refine Za ?_
 refine Zx <| Zs ?_
 refine Zf AZ ?_
 refine Zl AI ?_
 refine Zf AZ ?_
 refine Zl AI ?_
 refine Zo (BC rfl rfl rfl) ?_
 refine Zm ?_
 refine Seq.split 10 rfl (fun k1_5 => ?_) (fun k1_5 => ?_)
 ·refine Zk ?_
  refine Zk ?_
  refine Zk ?_
  refine Zk ?_
  refine Zk ?_
  refine Zk ?_
  refine Zk ?_
  refine Zk ?_
  refine Zk ?_
  refine Zk ?_
  refine Zk ?_
  refine Zk ?_
  refine Zt ?_
  refine Za ?_
  refine Zx <| DC.ret ?_
  refine Fin.weak (E' := [(4, _)]) ⟨rfl, trivial⟩ .nil ?_
  refine Ak (.inl rfl) rfl rfl ?_
  refine ⟨rfl, _, rfl, ?_⟩
  unfold Lex
  simp_all
  try omega
 ·refine Zf AZ ?_
  refine Zl AI ?_
  refine Zf AZ ?_
  refine Zl AI ?_
  refine Zo (AN rfl rfl rfl) ?_
  refine Zm ?_
  refine Seq.split 16 rfl (fun k1_11 => ?_) (fun k1_11 => ?_)
  ·refine Zf Bi ?_
   refine Zl AI ?_
   refine Zf Bi ?_
   refine Zl AI ?_
   refine Zo (BC rfl rfl rfl) ?_
   refine Zt ?_
   refine Zg ?_
   refine Za ?_
   refine Zx <| DC.ret ?_
   refine Fin.weak (E' := [(4, _)]) ⟨rfl, trivial⟩ .nil ?_
   refine Ak (.inl rfl) rfl rfl ?_
   refine ⟨rfl, _, rfl, ?_⟩
   unfold Lex
   simp_all
   try omega
  ·refine Zk ?_
   refine Zk ?_
   refine Zk ?_
   refine Zk ?_
   refine Zk ?_
   refine Zg ?_
   refine Zg ?_
   refine Za ?_
   refine Zx <| DC.ret ?_
   refine Fin.weak (E' := [(4, _)]) ⟨rfl, trivial⟩ .nil ?_
   refine Ak (.inl rfl) rfl rfl ?_
   refine ⟨rfl, _, rfl, ?_⟩
   unfold Lex
   simp_all
   try omega
theorem Jm (A : Option Addr) (len cap : Nat) (w : World) : Calls Tryz.prog 220 #[.slice A len cap] w (Ret w [] fun v L => L = [] ∧ v = .int .i64 len) := by
 refine At (args := [_]) (L := []) Tryz.func220 rfl Tryz.ntmps220 rfl (Own.start _ _) ?_
 refine Zs ?_
 refine Za ?_
 refine Zx <| Zs ?_
 refine Zm ?_
 refine Zn Tryz.underlying153 ?_
 refine Za ?_
 refine Zx <| DC.ret ?_
 refine Ak (.inl rfl) rfl rfl ?_
 exact ⟨rfl, rfl⟩
theorem JG (A : Option Addr) (len cap : Nat) (w : World) : Calls Tryz.prog 221 #[.slice A len cap] w (Ret w [] fun v L => L = [] ∧ v = .int .i64 len) := by
 refine At (args := [_]) (L := []) Tryz.func221 rfl Tryz.ntmps221 rfl (Own.start _ _) ?_
 refine Zs ?_
 refine Za ?_
 refine Zx <| Zs ?_
 refine Zm ?_
 refine Zn Tryz.underlying154 ?_
 refine Za ?_
 refine Zx <| DC.ret ?_
 refine Ak (.inl rfl) rfl rfl ?_
 exact ⟨rfl, rfl⟩
/-- The form of a certificate. -/
theorem Jt (b : Bool) (A A' : Option Addr) (n m cap cap' : Nat) (w : World) :
  Calls Tryz.prog 46 #[.agg #[.bool b, .slice A n cap, .slice A' m cap']] w (Ret w [] fun v L => L = [] ∧
   v = if b then .tuple #[.iface 153 (.slice A n cap), .bool (decide (m = 0))] else .tuple #[.iface 154 (.slice A' m cap'), .bool (decide (n = 0))]) := by
 refine At (args := [_]) (L := []) Tryz.func46 rfl Tryz.ntmps46 rfl (Own.start _ _) ?_
 refine Zs ?_
 refine Zw (AR rfl rfl rfl) fun g1 => ?_
 refine Za ?_
 refine Za ?_
 refine Zx <| DC.seq <| Zs ?_
 refine Zf C2 ?_
 refine Zl Id ?_
 refine Zx ?_
 refine Zd (fun c1 => ?_) fun c1 => ?_
 ·refine DC.seq ?_
  refine AD (cl := [.q, .v, .q, .q, .v, .q, .q, .q, .q]) (A := [0, 1, 3, 0, 8, 24, 56, 7, 255]) (order := [0, 1, 2, 3, 4, 5, 6, 7, 8]) [] mixed (by kernel_rfl) (fun w hw => hw.pick .nil) ?_
  refine Yf Co ?_
  refine Yl Dl ?_
  refine Yo rfl (E5 (v := .iface 153 (.slice A n cap)) rfl rfl (fun w => by kernel_rfl)) ?_
  refine Yf BR ?_
  refine Yl Bj ?_
  refine Yo rfl (CL rfl rfl Tryz.underlying22) ?_
  refine Yo rfl (AN rfl rfl rfl) ?_
  refine Yo rfl (AY rfl rfl) ?_
  refine Yo rfl (AY rfl rfl) ?_
  refine Flow.end rfl ?_
  simp only [zq, zr]
  refine Fin.then <| DC.ret <| Aa ?_
  refine Fin.weak (E' := [(2, _), (3, _)]) ⟨rfl, rfl, trivial⟩ .nil ?_
  refine AK (.inl rfl) rfl rfl rfl ?_
  exact ⟨rfl, by subst c1; simp⟩
 ·refine DC.skip <| Fin.then <| DC.seq ?_
  refine AD (cl := [.q, .v, .q, .q, .v, .q, .q, .q, .q]) (A := [0, 1, 3, 0, 8, 24, 56, 7, 255]) (order := [0, 1, 2, 3, 4, 5, 6, 7, 8]) [] mixed (by kernel_rfl) (fun w hw => hw.pick .nil) ?_
  refine Yf BR ?_
  refine Yl Bj ?_
  refine Yo rfl (E5 (v := .iface 154 (.slice A' m cap')) rfl rfl (fun w => by kernel_rfl)) ?_
  refine Yf Co ?_
  refine Yl Dl ?_
  refine Yo rfl (CL rfl rfl Tryz.underlying25) ?_
  refine Yo rfl (AN rfl rfl rfl) ?_
  refine Yo rfl (AY rfl rfl) ?_
  refine Yo rfl (AY rfl rfl) ?_
  refine Flow.end rfl ?_
  simp only [zq, zr]
  refine Fin.then <| DC.ret ?_
  refine Fin.weak (E' := [(2, _), (3, _)]) ⟨rfl, rfl, trivial⟩ .nil ?_
  refine AK (.inl rfl) rfl rfl rfl ?_
  exact ⟨rfl, by subst c1; simp⟩
theorem KI (ls : List (List Int)) (v : Value) (w : World) (hv : LsV w v ls) :
  Calls Tryz.prog 47 #[.iface 153 v] w (Ret w [] fun r L => L = [] ∧ ∃ b, r = .tuple #[str [112], .int .i64 1048576, .bool b] ∧ (b = true ↔ ListsOk ls)) := by
 obtain ⟨A, cap, rfl, hr, hlc, hcm, hle⟩ := hv
 refine At (args := [_]) (L := []) Tryz.func47 rfl Tryz.ntmps47 rfl (Own.start _ _) ?_
 refine Zs ?_
 refine Za ?_
 refine Za ?_
 refine Za ?_
 refine Zx <| DC.seq <| Zs ?_
 refine Zm ?_
 refine Zx <| DC.block <| Zs ?_
 refine Zo (CX (v := .tuple #[.slice A ls.length cap, .bool true]) rfl rfl (fun w => by kernel_rfl)) ?_
 refine Ze ?_
 refine Ze ?_
 refine Zx ?_
 refine AM rfl ?_
 refine Zs ?_
 refine Za ?_
 refine Zx <| DC.seq <| Zs ?_
 refine Zm ?_
 refine Zn Tryz.underlying153 ?_
 refine Zo (BC rfl rfl rfl) ?_
 refine Zx ?_
 refine Zd (fun c4 => ?_) fun c4 => ?_
 ·refine Zs ?_
  refine Za ?_
  refine Za ?_
  refine Za ?_
  refine Zx <| DC.ret <| Aa <| Ae <| Aa ?_
  refine Fin.weak (E' := [(2, _), (3, _), (4, _)]) ⟨rfl, rfl, rfl, trivial⟩ .nil ?_
  refine Bu (.inl rfl) rfl rfl rfl rfl ?_
  exact ⟨rfl, false, rfl, by simp; rintro ⟨h1, _⟩; simp at c4; omega⟩
 ·refine DC.skip <| Fin.then <| DC.seq <| Zs ?_
  refine Zm ?_
  refine Zn Tryz.underlying153 ?_
  refine Zm ?_
  refine Zx <| DC.block ?_
  refine DC.loop (ι := Nat) (fun i => i ≤ ls.length ∧ ∀ (j : Nat) l, j < i → ls[j]? = some l → ListOk l)
   (fun i => [(20, .slice A ls.length cap), (21, .int .i64 ls.length), (22, .int .i64 i)])
   (fun i => []) (fun i => ls.length - i) 0 ⟨Nat.zero_le _, fun _ _ h => absurd h (Nat.not_lt_zero _)⟩ ⟨rfl, rfl, rfl, trivial⟩ .nil ?_
  rintro i ⟨hi, hok⟩
  refine Zs ?_
  refine Zc ?_
  refine Zx <| DC.seq ?_
  refine Zd (fun c7 => ?_) fun c7 => ?_
  ·have hlt : i < ls.length := by simpa using c7
   obtain ⟨l, hl⟩ : ∃ l, ls[i]? = some l := ⟨_, List.getElem?_eq_getElem hlt⟩
   obtain ⟨ad, lv, rfl, hc, Al, capl, rfl, hrl, hl1, hl2, hl3⟩ := hr i l hl
   refine DC.skip <| Fin.then <| DC.seq <| DC.block <| Zs ?_
   refine Zi Tryz.underlying153 Br ?_
   refine Zu (Ai rfl rfl Bp (Ar hc)) ?_
   refine Za ?_
   refine Zx <| Zs ?_
   refine Zm ?_
   refine Zn Tryz.underlying44 ?_
   refine Zm ?_
   refine Zx <| DC.block ?_
   refine DC.loop (ι := Nat) (fun k => k ≤ l.length ∧ ∀ (j : Nat) x a, j < k → l[j]? = some x → l[0]? = some a → Fits x ∧ a ≤ x)
    (fun k => [(7, .slice Al l.length capl), (20, .slice (some ad) ls.length cap), (21, .int .i64 ls.length), (22, .int .i64 i), (26, .slice Al l.length capl), (27, .int .i64 l.length), (28, .int .i64 k)])
    (fun k => []) (fun k => l.length - k) 0 ⟨Nat.zero_le _, fun _ _ _ h => absurd h (Nat.not_lt_zero _)⟩ ⟨rfl, rfl, rfl, rfl, rfl, rfl, rfl, trivial⟩ .nil ?_
   rintro k ⟨hk, hokl⟩
   refine Zs ?_
   refine Zc ?_
   refine Zx <| DC.seq ?_
   refine Zd (fun c10 => ?_) fun c10 => ?_
   ·have hlt2 : k < l.length := by simpa using c10
    obtain ⟨x, hx⟩ : ∃ x, l[k]? = some x := ⟨_, List.getElem?_eq_getElem hlt2⟩
    obtain ⟨a, ha⟩ : ∃ a, l[0]? = some a := ⟨_, List.getElem?_eq_getElem (by omega)⟩
    obtain ⟨adl, rfl, hcx⟩ := hrl.int hx
    obtain ⟨adl', e', hca⟩ := hrl.int ha
    cases e'
    refine DC.skip <| Fin.then <| DC.seq <| DC.block <| Zs ?_
    refine Zi Tryz.underlying44 AL ?_
    refine Zu (Ai rfl rfl AI (Ar hcx)) ?_
    refine Za ?_
    refine Zx <| Zs ?_
    refine Zm ?_
    refine Seq.rel0 rfl rfl (Ao en85 rfl rfl rfl (fun w hw => Fb x w)) ?_
    rintro _ ⟨b1, rfl, hb1⟩
    refine Zo (Bg rfl rfl) ?_
    refine Zm ?_
    refine Seq.split 35 rfl (fun k12_3 => ?_) (fun k12_3 => ?_)
    ·refine Zk ?_
     refine Zk ?_
     refine Zk ?_
     refine Zk ?_
     refine Zk ?_
     refine Zt ?_
     refine Zx ?_
     refine AM rfl ?_
     refine Zs ?_
     refine Za ?_
     refine Za ?_
     refine Za ?_
     refine Zx <| DC.ret <| Ae <| Aa <| Aa <| Ae <| Ae <| Aa <| Aa <| Ae <| Aa <| Ae <| Aa ?_
     refine Fin.weak (E' := [(2, _), (3, _), (4, _)]) ⟨rfl, rfl, rfl, trivial⟩ .nil ?_
     refine Bu (.inl rfl) rfl rfl rfl rfl ?_
     refine ⟨rfl, false, rfl, by simp; rintro ⟨_, h2⟩; have := h2 i l hl k x a hx ha; simp_all⟩
    ·refine Zm ?_
     refine Zm ?_
     refine Zi Tryz.underlying44 AL ?_
     refine Zu (Ai rfl rfl AI (Ar hca)) ?_
     refine Zc ?_
     refine Zg ?_
     refine Zx ?_
     refine Zd (fun c12 => ?_) fun c12 => ?_
     ·refine Zs ?_
      refine Za ?_
      refine Za ?_
      refine Za ?_
      refine Zx <| DC.ret <| Ae <| Aa <| Aa <| Ae <| Ae <| Aa <| Aa <| Ae <| Aa <| Ae <| Aa ?_
      refine Fin.weak (E' := [(2, _), (3, _), (4, _)]) ⟨rfl, rfl, rfl, trivial⟩ .nil ?_
      refine Bu (.inl rfl) rfl rfl rfl rfl ?_
      refine ⟨rfl, false, rfl, by simp; rintro ⟨_, h2⟩; have := h2 i l hl k x a hx ha; simp_all; omega⟩
     ·refine DC.skip <| Fin.inBlock <| Fin.then <| DC.region ?_
      refine Zp ?_
      refine Zm ?_
      refine Seq.nil ?_
      refine Fin.again (k + 1) (by omega) ⟨by omega, ?_⟩ ⟨rfl, rfl, rfl, rfl, rfl, rfl, rfl, trivial⟩ .nil
      intro j x' a' hj hx' ha'
      rcases Nat.lt_succ_iff_lt_or_eq.1 hj with hj | rfl
      ·exact hokl j x' a' hj hx' ha'
      ·rw [hx] at hx'; cases hx'; rw [ha] at ha'; cases ha'
       simp at k12_3 c12
       exact ⟨hb1.1 k12_3, by omega⟩
   ·refine DC.exit <| Ad <| Ad <| Ag <| Fin.inBlock <| Fin.then <| DC.region ?_
    refine Zp ?_
    refine Zm ?_
    refine Seq.nil ?_
    have hkl : k = l.length := by simp at c10; omega
    subst hkl
    refine Fin.again (i + 1) (by omega) ⟨by omega, ?_⟩ ⟨rfl, rfl, rfl, trivial⟩ .nil
    intro j l' hj hl'
    rcases Nat.lt_succ_iff_lt_or_eq.1 hj with hj | rfl
    ·exact hok j l' hj hl'
    ·rw [hl] at hl'; cases hl'
     intro q x' a' hq ha'
     exact hokl q x' a' (List.getElem?_eq_some_iff.1 hq).1 hq ha'
  ·refine DC.exit <| Ad <| Ad <| Ag <| Fin.then <| Zs ?_
   refine Za ?_
   refine Za ?_
   refine Za ?_
   refine Zx <| DC.ret <| Ae <| Aa ?_
   refine Fin.weak (E' := [(2, _), (3, _), (4, _)]) ⟨rfl, rfl, rfl, trivial⟩ .nil ?_
   refine Bu (.inl rfl) rfl rfl rfl rfl ?_
   have hil : i = ls.length := by simp at c7; omega
   subst hil
   refine ⟨rfl, true, rfl, by simp; exact ⟨by simp at c4; omega, fun j l hl => hok j l (List.getElem?_eq_some_iff.1 hl).1 hl⟩⟩
theorem KJ (es : List Pr) (v : Value) (w : World) (hv : PrV w v es) :
  Calls Tryz.prog 47 #[.iface 154 v] w (Ret w [] fun r L => L = [] ∧ ∃ b, r = .tuple #[str [110], .int .i64 4194304, .bool b] ∧ (b = true ↔ EdgesOk es)) := by
 obtain ⟨A, cap, rfl, hr, hlc, hcm, hle⟩ := hv
 refine At (args := [_]) (L := []) Tryz.func47 rfl Tryz.ntmps47 rfl (Own.start _ _) ?_
 refine Zs ?_
 refine Za ?_
 refine Za ?_
 refine Za ?_
 refine Zx <| DC.seq <| Zs ?_
 refine Zm ?_
 refine Zx <| DC.block <| Zs ?_
 refine Zo (CX (v := .tuple #[.slice none 0 0, .bool false]) rfl rfl (fun w => by kernel_rfl)) ?_
 refine Ze ?_
 refine Ze ?_
 refine Zx ?_
 refine AT rfl ?_
 refine Zs ?_
 refine Zo (CX (v := .tuple #[.slice A es.length cap, .bool true]) rfl rfl (fun w => by kernel_rfl)) ?_
 refine Ze ?_
 refine Ze ?_
 refine Zx ?_
 refine AM rfl ?_
 refine Zs ?_
 refine Za ?_
 refine Zx <| DC.seq <| Zs ?_
 refine Zm ?_
 refine Zn Tryz.underlying154 ?_
 refine Zo (BC rfl rfl rfl) ?_
 refine Zx ?_
 refine Zd (fun c19 => ?_) fun c19 => ?_
 ·refine Zs ?_
  refine Za ?_
  refine Za ?_
  refine Za ?_
  refine Zx <| DC.ret <| Aa <| Ae <| Aa ?_
  refine Fin.weak (E' := [(2, _), (3, _), (4, _)]) ⟨rfl, rfl, rfl, trivial⟩ .nil ?_
  refine Bu (.inl rfl) rfl rfl rfl rfl ?_
  exact ⟨rfl, false, rfl, by simp; intro h; have := h.few; simp at c19; omega⟩
 ·refine DC.skip <| Fin.then <| DC.seq <| Zs ?_
  refine Zm ?_
  refine Zn Tryz.underlying154 ?_
  refine Zm ?_
  refine Zx <| DC.block ?_
  refine DC.loop (ι := Nat) (fun i => i ≤ es.length ∧ (∀ (j : Nat) e, j < i → es[j]? = some e → Fits e.1 ∧ Fits e.2 ∧ e.1 < e.2) ∧ ∀ (j : Nat) a b, j + 1 < i → es[j]? = some a → es[j + 1]? = some b → Lex a b)
   (fun i => [(10, .slice A es.length cap), (50, .slice A es.length cap), (51, .int .i64 es.length), (52, .int .i64 i)])
   (fun i => []) (fun i => es.length - i) 0 ⟨Nat.zero_le _, fun _ _ h => absurd h (Nat.not_lt_zero _), fun _ _ _ h => absurd h (Nat.not_lt_zero _)⟩ ⟨rfl, rfl, rfl, rfl, trivial⟩ .nil ?_
  rintro i ⟨hi, hok, hup⟩
  refine Zs ?_
  refine Zc ?_
  refine Zx <| DC.seq ?_
  refine Zd (fun c22 => ?_) fun c22 => ?_
  ·have hlt : i < es.length := by simpa using c22
   obtain ⟨e, he⟩ : ∃ e, es[i]? = some e := ⟨_, List.getElem?_eq_getElem hlt⟩
   obtain ⟨ad, rfl, hU, hV⟩ := hr.pair he
   refine DC.skip <| Fin.then <| DC.seq <| DC.block <| Zs ?_
   refine Zm ?_
   refine Zo (AE rfl rfl rfl Tryz.underlying154 AW (by omega) (by omega) (by first | exact AC _ _ | exact Bf _ _ _ | rfl)) ?_
   refine Zu (Aw (vs := [_, _]) rfl rfl Cr AW rfl (Ck hU hV (by simp))) ?_
   refine Zw (AO rfl CK rfl) fun g12 => ?_
   refine Za ?_
   refine Zy (Az (cs' := #[_, _]) rfl rfl rfl AW rfl (Nat.le_of_ble_eq_true rfl) rfl) ?_
   refine Zx <| DC.seq ?_
   refine AD (cl := [.q, .v, .r, .q, .q, .q, .v, .r, .q, .q, .q, .q, .v, .q, .v, .q, .q, .q, .q, .q, .q, .q, .q, .q, .q, .v, .v, .r, .q, .q, .q]) (A := [0, 1, 3, 7, 15, 31, 63, 127, 255, 511, 1023, 2047, 4095, 2047, 10239, 32767, 65535, 131071, 262143, 524287, 1048575, 2097151, 2097151, 6291455, 16777215, 33554431, 2097151, 134217727, 268435455, 536870911, 1073741823]) (order := [0, 1, 2, 3, 4, 5, 6, 7, 8, 9, 10, 11, 12, 13, 14, 15, 16, 17, 18, 19, 20, 21, 22, 23, 24, 25, 26, 27, 28, 29, 30]) [] mixed (by kernel_rfl) (fun w hw => hw.pick .nil) ?_
   refine Yf AZ ?_
   refine Yl AI ?_
   refine Flow.rel0 rfl rfl rfl rfl (Ao en85 rfl rfl rfl (fun w hw => Fb e.1 w)) ?_
   rintro _ ⟨b1, rfl, hb1⟩
   refine Yo rfl (Bg rfl rfl) ?_
   refine Ym ?_
   refine Flow.split 61 rfl (fun k24_4 => ?_) (fun k24_4 => ?_)
   ·refine Yk ?_
    refine Yk ?_
    refine Yk ?_
    refine Yk ?_
    refine Yo rfl (Bb rfl rfl rfl) ?_
    refine Ym ?_
    refine Yk ?_
    refine Yk ?_
    refine Yk ?_
    refine Yk ?_
    refine Yk ?_
    refine Yo rfl (Bb rfl rfl rfl) ?_
    refine Ym ?_
    refine Yk ?_
    refine Yk ?_
    refine Yk ?_
    refine Yk ?_
    refine Yk ?_
    refine Yk ?_
    refine Yk ?_
    refine Yk ?_
    refine Yk ?_
    refine Yk ?_
    refine Yk ?_
    refine Yk ?_
    refine Yo rfl (Bb rfl rfl rfl) ?_
    refine Flow.end rfl ?_
    simp only [zq, zr]
    refine Fin.then ?_
    refine AM rfl ?_
    refine Zs ?_
    refine Za ?_
    refine Za ?_
    refine Za ?_
    refine Zx <| DC.ret <| Ae <| Aa <| Aa <| Ae <| Aa <| Ae <| Aa ?_
    refine Fin.weak (E' := [(2, _), (3, _), (4, _)]) ⟨rfl, rfl, rfl, trivial⟩ .nil ?_
    refine Bu (.inl rfl) rfl rfl rfl rfl ?_
    exact ⟨rfl, false, rfl, by simp; intro h; have := h.ok i e he; simp_all⟩
   ·refine Yf Bi ?_
    refine Yl AI ?_
    refine Flow.rel0 rfl rfl rfl rfl (Ao en85 rfl rfl rfl (fun w hw => Fb e.2 w)) ?_
    rintro _ ⟨b2, rfl, hb2⟩
    refine Yo rfl (Bg rfl rfl) ?_
    refine Yo rfl (Ba rfl rfl rfl) ?_
    refine Ym ?_
    refine Flow.split 67 rfl (fun k24_10 => ?_) (fun k24_10 => ?_)
    ·refine Yk ?_
     refine Yk ?_
     refine Yk ?_
     refine Yk ?_
     refine Yk ?_
     refine Yo rfl (Bb rfl rfl rfl) ?_
     refine Ym ?_
     refine Yk ?_
     refine Yk ?_
     refine Yk ?_
     refine Yk ?_
     refine Yk ?_
     refine Yk ?_
     refine Yk ?_
     refine Yk ?_
     refine Yk ?_
     refine Yk ?_
     refine Yk ?_
     refine Yk ?_
     refine Yo rfl (Bb rfl rfl rfl) ?_
     refine Flow.end rfl ?_
     simp only [zq, zr]
     refine Fin.then ?_
     refine AM rfl ?_
     refine Zs ?_
     refine Za ?_
     refine Za ?_
     refine Za ?_
     refine Zx <| DC.ret <| Ae <| Aa <| Aa <| Ae <| Aa <| Ae <| Aa ?_
     refine Fin.weak (E' := [(2, _), (3, _), (4, _)]) ⟨rfl, rfl, rfl, trivial⟩ .nil ?_
     refine Bu (.inl rfl) rfl rfl rfl rfl ?_
     exact ⟨rfl, false, rfl, by simp; intro h; have := h.ok i e he; simp_all⟩
    ·refine Yf AZ ?_
     refine Yl AI ?_
     refine Yf Bi ?_
     refine Yl AI ?_
     refine Yo rfl (Cj rfl rfl rfl) ?_
     refine Yo rfl (Ba rfl rfl rfl) ?_
     refine Ym ?_
     refine Flow.split 74 rfl (fun k24_17 => ?_) (fun k24_17 => ?_)
     ·refine Yk ?_
      refine Yk ?_
      refine Yk ?_
      refine Yk ?_
      refine Yk ?_
      refine Yk ?_
      refine Yk ?_
      refine Yk ?_
      refine Yk ?_
      refine Yk ?_
      refine Yk ?_
      refine Yk ?_
      refine Yo rfl (Bb rfl rfl rfl) ?_
      refine Flow.end rfl ?_
      simp only [zq, zr]
      refine Fin.then ?_
      refine AM rfl ?_
      refine Zs ?_
      refine Za ?_
      refine Za ?_
      refine Za ?_
      refine Zx <| DC.ret <| Ae <| Aa <| Aa <| Ae <| Aa <| Ae <| Aa ?_
      refine Fin.weak (E' := [(2, _), (3, _), (4, _)]) ⟨rfl, rfl, rfl, trivial⟩ .nil ?_
      refine Bu (.inl rfl) rfl rfl rfl rfl ?_
      exact ⟨rfl, false, rfl, by simp; intro h; have := h.ok i e he; simp_all; omega⟩
     ·refine Ym ?_
      refine Yo rfl (BC rfl rfl rfl) ?_
      refine Ym ?_
      refine Flow.split 77 rfl (fun k24_20 => ?_) (fun k24_20 => ?_)
      ·have hpos : 0 < i := by simpa using k24_20
       obtain ⟨d, hd⟩ : ∃ d, es[i - 1]? = some d := ⟨_, List.getElem?_eq_getElem (by omega)⟩
       obtain ⟨ad', h', hU', hV'⟩ := hr.pair hd
       cases h'
       have hii : ((i : Int) - 1).toNat = i - 1 := by omega
       refine Ym ?_
       refine Ym ?_
       refine Yo rfl (BA rfl rfl rfl (by omega)) ?_
       refine Yo rfl (AE (ad' := ad.add ((i - 1) * 2)) rfl rfl rfl Tryz.underlying154 AW (by omega) (by omega) (by rw [hii])) ?_
       refine Aj rfl rfl rfl rfl (Aw (vs := [_, _]) rfl rfl Cr AW rfl (Ck hU' hV' (by simp))) ?_
       refine Aj rfl rfl rfl rfl (Aw (vs := [_, _]) rfl rfl Cr AW rfl (Am rfl)) ?_
       refine Flow.rel0 rfl rfl rfl rfl (Ao en86 rfl rfl rfl (fun w hw => K9 d.1 d.2 e.1 e.2 w)) ?_
       rintro _ ⟨b3, rfl, hb3⟩
       refine Yo rfl (Bg rfl rfl) ?_
       refine Yo rfl (Bb rfl rfl rfl) ?_
       refine Yo rfl (Ba rfl rfl rfl) ?_
       refine Flow.end rfl ?_
       simp only [zq, zr]
       refine Fin.then ?_
       refine Zd (fun c24 => ?_) fun c24 => ?_
       ·refine Zs ?_
        refine Za ?_
        refine Za ?_
        refine Za ?_
        refine Zx <| DC.ret <| Ae <| Aa <| Aa <| Ae <| Aa <| Ae <| Aa ?_
        refine Fin.weak (E' := [(2, _), (3, _), (4, _)]) ⟨rfl, rfl, rfl, trivial⟩ .nil ?_
        refine Bu (.inl rfl) rfl rfl rfl rfl ?_
        refine ⟨rfl, false, rfl, by simp; intro h; have := h.up (i - 1) d e hd (by rw [show i - 1 + 1 = i by omega]; exact he); simp_all⟩
       ·refine DC.skip <| Fin.inBlock <| Fin.then <| DC.region ?_
        refine Zp ?_
        refine Zm ?_
        refine Seq.nil ?_
        refine Fin.again (i + 1) (by omega) ⟨by omega, ?_, ?_⟩ ⟨rfl, rfl, rfl, rfl, trivial⟩ .nil
        ·intro j x hj hx
         rcases Nat.lt_succ_iff_lt_or_eq.1 hj with hj | rfl
         ·exact hok j x hj hx
         ·rw [he] at hx; cases hx
          simp at k24_4 k24_10 k24_17
          exact ⟨hb1.1 k24_4, hb2.1 k24_10, by omega⟩
        ·intro j a b hj ha hb
         rcases Nat.lt_succ_iff_lt_or_eq.1 hj with hj | hj
         ·exact hup j a b hj ha hb
         ·obtain rfl : j = i - 1 := by omega
          rw [hd] at ha; cases ha
          rw [show i - 1 + 1 = i by omega, he] at hb; cases hb
          exact hb3.1 (by simpa using c24)
      ·refine Yk ?_
       refine Yk ?_
       refine Yk ?_
       refine Yk ?_
       refine Yk ?_
       refine Yk ?_
       refine Yk ?_
       refine Yk ?_
       refine Yo rfl (Ba rfl rfl rfl) ?_
       refine Yo rfl (Ba rfl rfl rfl) ?_
       refine Flow.end rfl ?_
       simp only [zq, zr]
       refine Fin.then ?_
       refine AT rfl ?_
       refine DC.skip <| Fin.inBlock <| Fin.then <| DC.region ?_
       refine Zp ?_
       refine Zm ?_
       refine Seq.nil ?_
       have h0 : i = 0 := by simp at k24_20; omega
       subst h0
       refine Fin.again 1 (by omega) ⟨by omega, ?_, ?_⟩ ⟨rfl, rfl, rfl, rfl, trivial⟩ .nil
       ·intro j x hj hx
        obtain rfl : j = 0 := by omega
        rw [he] at hx; cases hx
        simp at k24_4 k24_10 k24_17
        exact ⟨hb1.1 k24_4, hb2.1 k24_10, by omega⟩
       ·intro j a b hj; omega
  ·refine DC.exit <| Ad <| Ad <| Ag <| Fin.then <| Zs ?_
   refine Za ?_
   refine Za ?_
   refine Za ?_
   refine Zx <| DC.ret <| Ae <| Aa ?_
   refine Fin.weak (E' := [(2, _), (3, _), (4, _)]) ⟨rfl, rfl, rfl, trivial⟩ .nil ?_
   refine Bu (.inl rfl) rfl rfl rfl rfl ?_
   have hil : i = es.length := by simp at c22; omega
   subst hil
   refine ⟨rfl, true, rfl, by simp; exact ⟨by simp at c19; omega, fun j e h => hok j e (List.getElem?_eq_some_iff.1 h).1 h, fun j a b ha hb => hup j a b (List.getElem?_eq_some_iff.1 hb).1 ha hb⟩⟩
end Go.Fl

namespace Go.Fl
open Go
abbrev byc (l : List UInt8) : List Value := Lib.byteCells l
theorem GQ (a b : List UInt8) : byc (a ++ b) = byc a ++ byc b := by simp [byc, Lib.byteCells]
@[simp] theorem byc_len (l : List UInt8) : (byc l).length = l.length := Lib.byteCells_length l
theorem Dv (a : List UInt8) : ∀ u, u ∈ byc a → u.oneCell' = true := by
 intro u hu
 simp [byc, Lib.byteCells] at hu
 obtain ⟨x, _, rfl⟩ := hu; rfl
theorem byc_get {l : List UInt8} {i : Nat} {b : UInt8} (h : l[i]? = some b) : (byc l)[i]? = some (.int .u8 b.toNat) := by simp [byc, Lib.byteCells, h]
section
variable {P : Program} {w0 w : World} {K : List Nat} {n : Nat} {ds : List Deferred} {E : Env} {L F : List Chunk} {o : Oper} {x y z : Operand} {v u : Value}
theorem Fe (l : List UInt8) : Lib.strCells ⟨l.toArray⟩ = byc l := rfl
theorem BZ (l : List UInt8) : (⟨l.toArray⟩ : ByteArray).size = l.length := by simp [ByteArray.size]
/-- append of a string's bytes to bytes of ours. -/
theorem CF {t u e : Nat} {bs : List Value} {l : List UInt8} (ho : o.op = .call ⟨.builtin .append, #[x, y], #[t, u]⟩) (hx : ev n E x = some v) (hy : ev n E y = some (str l))
  (ht : P.underlying t = some (.slice e)) (hu : P.underlying u = some .string) (hm : sizeT P e = some 1) (hb : bytesT P e = some 1) (hz : zeroT P e = some (.int .u8 0))
  (hown : ∀ w, Own w0 K w L → Own w0 K w (slc v e 1 bs :: F)) (hfit : bs.length + l.length ≤ 140737488355328) : Gen P w0 K n ds E L o (fun v' M => M = slc v' e 1 (bs ++ byc l) :: F) := by
 intro a w ha hw
 obtain ⟨i, hi, e1, e2, e3⟩ := Fz hm hb hz
 have hw' := hown w hw
 have hlen : (bs ++ byc l).length = (bs.length + l.length) * 1 := by rw [List.length_append, byc_len, Nat.mul_one]
 have hF : Own w0 K w F := hw'.sub (List.sublist_cons_self ..)
 have hrun : ∀ v' w1, (Builtin.append_ #[t, u] o.type #[v, str l]).run P w = .ok v' w1 → Own w0 K w1 (slc v' e 1 (bs ++ byc l) :: F) →
   RunsTo P (execOp a.eval o) w (fun v w' => ∃ L', L' = slc v e 1 (bs ++ byc l) :: F ∧ Own w0 K w' L') := by
  intro v' w1 hr hO
  unfold RunsTo
  have : (execOp a.eval o).run P w = .ok (.value v') w1 := by
   simp [execOp, ho, resolve, ha.ev hx, ha.ev hy, invoke, builtin, hr]
  rw [this]
  exact ⟨_, rfl, hO⟩
 rcases B8 hw' with ⟨rfl, rfl, _⟩ | ⟨g, len, cap, sp, rfl, h1, h2, h3, h4, hO⟩
 ·by_cases h0 : l.length = 0
  ·have hl0 : l = [] := List.eq_nil_of_length_eq_zero h0
   subst hl0
   refine hrun (.slice none 0 0) w ?_ hw'
   simp [Builtin.append_, run_underlying ht, run_underlying hu, sizeOf, typeInfo, hi, Builtin.lenOf, Builtin.firstCells, str, storeCells]
   rw [if_pos (show (⟨#[]⟩ : ByteArray) = ByteArray.empty from rfl)]; rfl
  ·have hr := run_append_nil_string (P := P) w t u o.type e i (.int .u8 0) ht hu hi e3 ⟨l.toArray⟩ (by rw [BZ]; omega) (by rw [BZ]; simp at hfit; omega) (by rw [BZ, e2]; simp at hfit; omega)
   rw [BZ] at hr
   refine hrun _ _ hr ?_
   have hA := (hF.drew).alloc e ((⟨l.toArray⟩ : ByteArray).data.map (fun b => Value.int .u8 b.toNat) ++ Builtin.zeroCells (Value.int .u8 0).cells (grownCap w l.length 0 e - l.length))
   have hge := grownCap_ge w l.length 0 e
   have hle := grownCap_le_maxLen w l.length 0 e (by simp only [maxLen]; simp at hfit; omega)
   refine BY (vs := [] ++ byc l) (m := 1) (len := l.length) (by simp) (by decide) hge (by simp only [maxLen] at hle; omega) ?_ ?_ hA
   ·simp [size_zeroCells, Value.cells]; omega
   ·simp [byc, Lib.byteCells]
 ·rw [Nat.mul_one] at h1
  subst h1
  have hg := hO.holds _ (List.mem_cons_self ..)
  by_cases hroom : bs.length + l.length ≤ cap
  ·have hr := Lib.run_append_room_string (P := P) w t u o.type e i ht hu hi e1 g bs.length cap (bs ++ sp).toArray hg ⟨l.toArray⟩ (by rw [BZ]; omega) (by rw [BZ]; simp at h4 ⊢; omega)
   rw [BZ] at hr
   refine hrun _ _ hr ?_
   have hS := Ey w g (bs ++ sp).toArray ((bs ++ sp).toArray.toList.take bs.length ++ Lib.strCells ⟨l.toArray⟩ ++ (bs ++ sp).toArray.toList.drop (bs.length + l.length)).toArray e hg
   have hO2 : Own w0 K _ (blk g e _ :: F) := Own.frame (Lc := [blk g e (bs ++ sp).toArray]) hO hS (fun k hk => by simp [blk] at hk ⊢; exact hk)
   refine BY hlen (by decide) hroom h3 ?_ ?_ hO2
   ·simp [Lib.strCells_length, BZ] at h4 ⊢; omega
   ·simp only [List.toList_toArray, List.take_left' rfl, Fe, ← hlen]
  ·have hr := Lib.run_append_grow_string (P := P) w t u o.type e i (.int .u8 0) ht hu hi e3 ⟨g, 0, none⟩ bs.length cap bs (by rw [e1, Nat.mul_one])
    (by
     intro j q hj
     rw [AC, cell_of_row w g _ _ e (0, 0) hg]
     have hjl := (List.getElem?_eq_some_iff.1 hj).1
     simpa [List.getElem?_append_left hjl] using hj) ⟨l.toArray⟩ (by rw [BZ]; omega) (by rw [BZ]; omega) (by rw [BZ]; exact growslice_fits (by omega) (by rw [e2]; omega))
   rw [BZ] at hr
   refine hrun _ _ hr ?_
   have hA := (hF.drew).alloc e (bs.toArray ++ (Lib.strCells ⟨l.toArray⟩).toArray ++ Builtin.zeroCells (Value.int .u8 0).cells (grownCap w (bs.length + l.length) cap e - (bs.length + l.length)))
   have hge := grownCap_ge w (bs.length + l.length) cap e
   have hle := grownCap_le_maxLen w (bs.length + l.length) cap e (by simp only [maxLen]; omega)
   refine BY hlen (by decide) hge (by simp only [maxLen] at hle; omega) ?_ ?_ hA
   ·simp [size_zeroCells, Value.cells, Lib.strCells_length, BZ]; omega
   ·simp only [Fe, Array.toList_append, List.toList_toArray]
    rw [← hlen]
    exact List.take_left
/-- Bytes, seen as a string. -/
theorem Ei {src dst e len cap : Nat} {ad : Addr} {l : List UInt8} (ho : o.op = .convert src dst x) (hx : ev n E x = some (.slice (some ad) len cap)) (hl : l.length = len) (hs : P.underlying src = some (.slice e)) (he : P.underlying e = some (.int .u8)) (hd : P.underlying dst = some .string)
  (h : Hass w0 K L ad (byc l)) : Val P w0 K n ds E L o (str l) := by
 intro a w ha hw
 subst hl
 have := run_convert_bytes_back (P := P) w src dst e ad cap l hs he hd (fun j hj => h w hw j _ (byc_get (List.getElem?_eq_getElem hj)))
 simp [execOp, ho, ha.ev hx, this, str]
theorem p_conv_u8 {src dst : Nat} {i : Int} (ho : o.op = .convert src dst x) (hx : ev n E x = some (.int .i64 i)) (hs : P.underlying src = some (.int .i64)) (hd : P.underlying dst = some (.int .u8)) (h0 : 0 ≤ i) (h1 : i < 256) :
  Pur P n ds E o (.int .u8 i) := by
 intro a w ha
 have hk : P.intKind dst = .u8 := by simp [Program.intKind, hd]
 have := run_convert_int (P := P) w src dst .i64 i (by rw [hs]; rfl) (by rw [hk]; exact hd)
 rw [hk] at this
 have hw : IntKind.u8.wrap i = i := by
  unfold IntKind.wrap
  simp [IntKind.bits, IntKind.signed]
  omega
 rw [hw] at this
 simp [execOp, ho, ha.ev hx, this]
theorem BD {i t l c : Nat} {ad : Addr} {vs : List Value} (hi : L[i]? = some (slc (.slice (some ad) l c) t 1 vs)) : Hass w0 K L ad vs := by
 intro w hw j u hj
 obtain ⟨A, len, cap, e, _, hr, _⟩ := BV (hw.perm (AH hi).symm)
 cases e
 obtain ⟨ad', e, hc⟩ := hr j u hj
 cases e; exact hc
end
theorem join_nil : Lib.join [] [32] = [] := rfl
theorem IG : ∀ (xs : List (List UInt8)) (x : List UInt8), Lib.join (xs ++ [x]) [32] = if xs = [] then x else Lib.join xs [32] ++ [32] ++ x
 | [], x => by simp [Lib.join, List.intercalate]
 | [y], x => by simp [Lib.join, List.intercalate, List.intersperse]
 | y :: z :: r, x => by
  have ih := IG (z :: r) x
  have e1 : Lib.join (y :: z :: r ++ [x]) [32] = y ++ [32] ++ Lib.join (z :: r ++ [x]) [32] := by simp [Lib.join, List.intercalate, List.intersperse]
  have e2 : Lib.join (y :: z :: r) [32] = y ++ [32] ++ Lib.join (z :: r) [32] := by simp [Lib.join, List.intercalate, List.intersperse]
  rw [e1, ih, e2]
  simp
theorem HB {B : Nat} : ∀ {L : List (List UInt8)}, (∀ l, l ∈ L → l.length ≤ B) → L.flatten.length ≤ L.length * B
 | [], _ => by simp
 | l :: r, h => by
  have := HB (L := r) fun x hx => h x (by simp [hx])
  have h1 := h l (by simp)
  simp only [List.flatten_cons, List.length_append, List.length_cons, Nat.succ_mul]
  omega
end Go.Fl

namespace Go.Fl
open Go
theorem CU : ∀ (k u : Nat), u < 10 ^ (k + 1) → (Lib.decDigits u).length ≤ k + 1
 | 0, u, h => by rw [Lib.decDigits, dif_pos (by simpa using h)]; simp
 | k + 1, u, h => by
  rw [Lib.decDigits]
  split
  ·simp
  ·have := CU k (u / 10) (by rw [Nat.div_lt_iff_lt_mul (by decide)]; rw [Nat.pow_succ] at h; exact h)
   simp; omega
theorem Cq {a : Int} (h : -9223372036854775808 ≤ a ∧ a ≤ 9223372036854775807) : (Lib.itoa a).length ≤ 20 := by
 unfold Lib.itoa
 split
 ·have := CU 18 a.natAbs (by rw [show (10 : Nat) ^ (18 + 1) = 10000000000000000000 by decide]; omega)
  simp; omega
 ·have := CU 18 a.toNat (by rw [show (10 : Nat) ^ (18 + 1) = 10000000000000000000 by decide]; omega)
  omega
def lineB (ns : List Int) : List UInt8 := Lib.join (ns.map Lib.itoa) [32] ++ [10]
theorem Fy {k : Nat} : ∀ (xs : List (List UInt8)), (∀ x, x ∈ xs → x.length ≤ k) → (Lib.join xs [32]).length ≤ (k + 1) * xs.length
 | [], _ => by simp [Lib.join]
 | [x], h => by simp [Lib.join, List.intercalate]; have := h x (by simp); omega
 | x :: y :: r, h => by
  have h1 := h x (by simp)
  have h2 := Fy (y :: r) (fun z hz => h z (List.mem_cons_of_mem _ hz))
  have e : Lib.join (x :: y :: r) [32] = x ++ [32] ++ Lib.join (y :: r) [32] := by simp [Lib.join, List.intercalate, List.intersperse]
  rw [e]
  simp only [List.length_append, List.length_cons, List.length_nil] at h2 ⊢
  rw [Nat.mul_add, Nat.mul_add] at *
  omega
def I64 (a : Int) : Prop := -9223372036854775808 ≤ a ∧ a ≤ 9223372036854775807
theorem C8 {ns : List Int} (h : ∀ a, a ∈ ns → I64 a) : (lineB ns).length ≤ 21 * ns.length + 1 := by
 have := Fy (k := 20) (ns.map Lib.itoa) (by simp; intro a ha; exact Cq (h a ha))
 simp [lineB] at this ⊢; omega
def strs (xs : List (List UInt8)) : List Value := xs.map str
@[simp] theorem strs_length (xs : List (List UInt8)) : (strs xs).length = xs.length := by simp [strs]
theorem strs_one (a : List (List UInt8)) : ∀ u, u ∈ strs a → u.oneCell' = true := by
 intro u hu; simp [strs] at hu; obtain ⟨x, _, rfl⟩ := hu; rfl
theorem Ko (w : World) (k : Nat) (os : Array Obj) : Own w [] (Sort.grow (w.drewN k) os) [] := by
 refine ⟨rfl, rfl, rfl, .inr (by simp [Sort.grow, World.drewN]), by simp [Sort.grow, World.drewN], fun i hi _ => ?_, by simp, by simp, by simp, by simp⟩
 have : (w.drewN k).heap = w.heap := rfl
 simp only [Sort.grow, this]
 rw [Array.getElem?_append_left hi]
end Go.Fl

namespace Go.Fl
open Go Go.Proofs
theorem C1 (a : Int) (w : World) : Calls Tryz.prog 99 #[.int .i64 a] w (Ret w [] fun v L => L = [] ∧ ∃ b, v = .bool b ∧ (b = true ↔ Fits a)) := by
 refine At (args := [_]) (L := []) Tryz.func99 rfl Tryz.ntmps99 rfl (Own.start _ _) ?_
 refine Zs ?_
 refine Za ?_
 refine Zx <| Zs ?_
 refine Zm ?_
 refine Zo (Cj rfl rfl rfl) ?_
 refine Zm ?_
 refine Seq.split 5 rfl (fun k1_2 => ?_) (fun k1_2 => ?_)
 ·refine Zm ?_
  refine Zo (Iv rfl rfl rfl) ?_
  refine Zt ?_
  refine Za ?_
  refine Zx <| DC.ret ?_
  refine Ak (.inl rfl) rfl rfl ?_
  refine ⟨rfl, _, rfl, ?_⟩
  unfold Fits
  first
  | (simp at k1_2 ⊢; omega)
 ·refine Zk ?_
  refine Zk ?_
  refine Zg ?_
  refine Za ?_
  refine Zx <| DC.ret ?_
  refine Ak (.inl rfl) rfl rfl ?_
  refine ⟨rfl, _, rfl, ?_⟩
  unfold Fits
  first
  | (simp at k1_2 ⊢; omega)
theorem G6 {ls : List (List Int)} {v : Value} {w : World} (hv : LsV w v ls) : Calls Tryz.prog 60 #[v] w (Ret w [] fun v L => L = [] ∧ ∃ b, v = .bool b ∧ (b = true ↔ ListsOk ls)) := by
 obtain ⟨A, cap, rfl, hr, hlc, hcm, hle⟩ := hv
 refine At (args := [_]) (L := []) Tryz.func60 rfl Tryz.ntmps60 rfl (Own.start _ _) ?_
 refine Zs ?_
 refine Za ?_
 refine Zx <| DC.seq <| Zs ?_
 refine Za ?_
 refine Zx <| DC.block ?_
 refine DC.loop (ι := Nat) (fun i => i ≤ ls.length ∧ ∀ (j : Nat) l, j < i → ls[j]? = some l → ListOk l)
  (fun i => [(0, .slice A ls.length cap), (3, .int .i64 i)]) (fun i => []) (fun i => ls.length - i) 0 ⟨Nat.zero_le _, fun _ _ h => absurd h (Nat.not_lt_zero _)⟩ ⟨rfl, rfl, trivial⟩ .nil ?_
 rintro i ⟨hi, hok⟩
 refine DC.seq <| Zs ?_
 refine Zm ?_
 refine Zm ?_
 refine Zn Tryz.underlying25 ?_
 refine Zc ?_
 refine Zx ?_
 refine Zd (fun c2 => ?_) fun c2 => ?_
 ·have hlt : i < ls.length := by simpa using c2
  obtain ⟨l, hl⟩ : ∃ l, ls[i]? = some l := ⟨_, List.getElem?_eq_getElem hlt⟩
  obtain ⟨ad, lv, rfl, hc, Al, capl, rfl, hrl, hl1, hl2, hl3⟩ := hr i l hl
  refine DC.skip <| Fin.then <| DC.seq <| DC.block <| Zs ?_
  refine Za ?_
  refine Zx <| DC.block ?_
  refine DC.loop (ι := Nat) (fun k => k ≤ l.length ∧ ∀ (j : Nat) x a, j < k → l[j]? = some x → l[0]? = some a → Fits x ∧ a ≤ x)
   (fun k => [(0, .slice (some ad) ls.length cap), (3, .int .i64 i), (4, .int .i64 k)])
   (fun k => []) (fun k => l.length - k) 0 ⟨Nat.zero_le _, fun _ _ _ h => absurd h (Nat.not_lt_zero _)⟩ ⟨rfl, rfl, rfl, trivial⟩ .nil ?_
  rintro k ⟨hk, hokl⟩
  refine DC.seq <| Zs ?_
  refine Zm ?_
  refine Zm ?_
  refine Zm ?_
  refine Zo (Ah (ad' := ad.add i) rfl rfl rfl Tryz.underlying25 Br (by omega) (by omega) rfl) ?_
  refine Zu (Ai rfl rfl Bp (Ar hc)) ?_
  refine Zn Tryz.underlying44 ?_
  refine Zc ?_
  refine Zx ?_
  refine Zd (fun c5 => ?_) fun c5 => ?_
  ·have hlt2 : k < l.length := by simpa using c5
   obtain ⟨x, hx⟩ : ∃ x, l[k]? = some x := ⟨_, List.getElem?_eq_getElem hlt2⟩
   obtain ⟨a, ha⟩ : ∃ a, l[0]? = some a := ⟨_, List.getElem?_eq_getElem (by omega)⟩
   obtain ⟨adl, rfl, hcx⟩ := hrl.int hx
   obtain ⟨adl', e', hca⟩ := hrl.int ha
   cases e'
   refine DC.skip <| Fin.then <| DC.seq <| DC.block <| DC.seq ?_
   refine AD (cl := [.q, .q, .q, .v, .q, .q, .v, .r, .q, .q, .q, .q, .q, .v, .q, .q, .v, .q, .q, .q, .v, .q, .v, .q, .q]) (A := [0, 0, 3, 7, 0, 31, 63, 127, 255, 511, 1023, 1023, 4095, 8191, 1023, 32767, 65535, 1023, 1023, 394239, 918527, 1967103, 4064255, 8388607, 16777215]) (order := [0, 1, 2, 3, 4, 5, 6, 7, 8, 9, 10, 11, 12, 13, 14, 15, 16, 17, 18, 19, 20, 21, 22, 23, 24]) [] mixed (by kernel_rfl) (fun w hw => hw.pick .nil) ?_
   refine Ym ?_
   refine Ym ?_
   refine Yo rfl (Ah (ad' := ad.add i) rfl rfl rfl Tryz.underlying25 Br (by omega) (by omega) rfl) ?_
   refine Aj rfl rfl rfl rfl (Ai rfl rfl Bp (Ar hc)) ?_
   refine Ym ?_
   refine Yo rfl (Ah (ad' := adl.add k) rfl rfl rfl Tryz.underlying44 AL (by omega) (by omega) rfl) ?_
   refine Aj rfl rfl rfl rfl (Ai rfl rfl AI (Ar hcx)) ?_
   refine Flow.rel0 rfl rfl rfl rfl (Ao en99 rfl rfl rfl (fun w' hw => C1 x w')) ?_
   rintro _ ⟨b1, rfl, hb1⟩
   refine Yo rfl (Bg rfl rfl) ?_
   refine Ym ?_
   refine Flow.split 29 rfl (fun k7_9 => ?_) (fun k7_9 => ?_)
   ·refine Yk ?_
    refine Yk ?_
    refine Yk ?_
    refine Yk ?_
    refine Yk ?_
    refine Yk ?_
    refine Yk ?_
    refine Yk ?_
    refine Yk ?_
    refine Yk ?_
    refine Yk ?_
    refine Yk ?_
    refine Yk ?_
    refine Yk ?_
    refine Yo rfl (Bb rfl rfl rfl) ?_
    refine Flow.end rfl ?_
    simp only [zq, zr]
    refine Fin.then ?_
    refine AM rfl ?_
    refine Zs ?_
    refine Za ?_
    refine Zx <| DC.ret <| Ae <| Aa <| Aa <| Ae <| Ae <| Aa <| Aa <| Ae <| Aa ?_
    refine Fin.weak (E' := [(2, _)]) ⟨rfl, trivial⟩ .nil ?_
    refine Ak (.inl rfl) rfl rfl ?_
    refine ⟨rfl, false, rfl, by simp; rintro ⟨_, h2⟩; have := h2 i l hl k x a hx ha; simp_all⟩
   ·refine Ym ?_
    refine Ym ?_
    refine Yo rfl (Ah (ad' := ad.add i) rfl rfl rfl Tryz.underlying25 Br (by omega) (by omega) rfl) ?_
    refine Aj rfl rfl rfl rfl (Ai rfl rfl Bp (Ar hc)) ?_
    refine Ym ?_
    refine Yo rfl (Ah (ad' := adl.add k) rfl rfl rfl Tryz.underlying44 AL (by omega) (by omega) rfl) ?_
    refine Aj rfl rfl rfl rfl (Ai rfl rfl AI (Ar hcx)) ?_
    refine Ym ?_
    refine Ym ?_
    refine Yo rfl (Ah (ad' := ad.add i) rfl rfl rfl Tryz.underlying25 Br (by omega) (by omega) rfl) ?_
    refine Aj rfl rfl rfl rfl (Ai rfl rfl Bp (Ar hc)) ?_
    refine Yo rfl (Ah (ad' := adl.add 0) rfl rfl rfl Tryz.underlying44 AL (by omega) (by omega) rfl) ?_
    refine Aj rfl rfl rfl rfl (Ai rfl rfl AI (Ar hca)) ?_
    refine Yo rfl (Gn rfl rfl rfl) ?_
    refine Yo rfl (Ba rfl rfl rfl) ?_
    refine Flow.end rfl ?_
    simp only [zq, zr]
    refine Fin.then ?_
    refine Zd (fun c7 => ?_) fun c7 => ?_
    ·refine Zs ?_
     refine Za ?_
     refine Zx <| DC.ret <| Ae <| Aa <| Aa <| Ae <| Ae <| Aa <| Aa <| Ae <| Aa ?_
     refine Fin.weak (E' := [(2, _)]) ⟨rfl, trivial⟩ .nil ?_
     refine Ak (.inl rfl) rfl rfl ?_
     refine ⟨rfl, false, rfl, by simp; rintro ⟨_, h2⟩; have := h2 i l hl k x a hx ha; simp_all; omega⟩
    ·refine DC.skip <| Fin.inBlock <| Fin.then <| DC.region ?_
     refine Zm ?_
     refine Zp ?_
     refine Za ?_
     refine Seq.nil ?_
     refine Fin.again (k + 1) (by omega) ⟨by omega, ?_⟩ ⟨rfl, rfl, rfl, trivial⟩ .nil
     intro j x' a' hj hx' ha'
     rcases Nat.lt_succ_iff_lt_or_eq.1 hj with hj | rfl
     ·exact hokl j x' a' hj hx' ha'
     ·rw [hx] at hx'; cases hx'; rw [ha] at ha'; cases ha'
      simp at k7_9 c7
      exact ⟨hb1.1 k7_9, by omega⟩
  ·refine DC.exit <| Ad <| Ad <| Ag <| Fin.inBlock <| Fin.then <| DC.region ?_
   refine Zm ?_
   refine Zp ?_
   refine Za ?_
   refine Seq.nil ?_
   have hkl : k = l.length := by simp at c5; omega
   subst hkl
   refine Fin.again (i + 1) (by omega) ⟨by omega, ?_⟩ ⟨rfl, rfl, trivial⟩ .nil
   intro j l' hj hl'
   rcases Nat.lt_succ_iff_lt_or_eq.1 hj with hj | rfl
   ·exact hok j l' hj hl'
   ·rw [hl] at hl'; cases hl'
    intro q x' a' hq ha'
    exact hokl q x' a' (List.getElem?_eq_some_iff.1 hq).1 hq ha'
 ·refine DC.exit <| Ad <| Ad <| Ag <| Fin.then <| Zs ?_
  refine Zm ?_
  refine Zn Tryz.underlying25 ?_
  refine Zo (Iv rfl rfl rfl) ?_
  refine Za ?_
  refine Zx <| DC.ret ?_
  refine Fin.weak (E' := [(2, _)]) ⟨rfl, trivial⟩ .nil ?_
  refine Ak (.inl rfl) rfl rfl ?_
  have hil : i = ls.length := by simp at c2; omega
  subst hil
  refine ⟨rfl, _, rfl, ?_⟩
  constructor
  ·intro h
   exact ⟨by simp at h; omega, fun j l hl => hok j l (List.getElem?_eq_some_iff.1 hl).1 hl⟩
  ·intro h
   have := h.1
   simp; omega
theorem G7 {es : List Pr} {v : Value} {w : World} (hv : PrV w v es) : Calls Tryz.prog 61 #[v] w (Ret w [] fun v L => L = [] ∧ ∃ b, v = .bool b ∧ (b = true ↔ EdgesOk es)) := by
 obtain ⟨A, cap, rfl, hr, hlc, hcm, hle⟩ := hv
 refine At (args := [_]) (L := []) Tryz.func61 rfl Tryz.ntmps61 rfl (Own.start _ _) ?_
 refine Zs ?_
 refine Za ?_
 refine Zx <| DC.seq <| Zs ?_
 refine Za ?_
 refine Zx <| DC.block ?_
 refine DC.loop (ι := Nat) (fun i => i ≤ es.length ∧ (∀ (j : Nat) e, j < i → es[j]? = some e → Fits e.1 ∧ Fits e.2 ∧ e.1 < e.2) ∧ ∀ (j : Nat) a b, j + 1 < i → es[j]? = some a → es[j + 1]? = some b → Lex a b)
  (fun i => [(0, .slice A es.length cap), (3, .int .i64 i)])
  (fun i => []) (fun i => es.length - i) 0 ⟨Nat.zero_le _, fun _ _ h => absurd h (Nat.not_lt_zero _), fun _ _ _ h => absurd h (Nat.not_lt_zero _)⟩ ⟨rfl, rfl, trivial⟩ .nil ?_
 rintro i ⟨hi, hok, hup⟩
 refine DC.seq <| Zs ?_
 refine Zm ?_
 refine Zm ?_
 refine Zn Tryz.underlying22 ?_
 refine Zc ?_
 refine Zx ?_
 refine Zd (fun c2 => ?_) fun c2 => ?_
 ·have hlt : i < es.length := by simpa using c2
  obtain ⟨e, he⟩ : ∃ e, es[i]? = some e := ⟨_, List.getElem?_eq_getElem hlt⟩
  obtain ⟨ad, rfl, hU, hV⟩ := hr.pair he
  refine DC.skip <| Fin.then <| DC.seq <| DC.block <| DC.seq <| DC.seq ?_
  refine AD (cl := [.q, .q, .q, .q, .v, .r, .q, .q, .q, .q, .q, .q, .v, .r, .q, .q, .q, .q, .q, .q, .q, .v, .q, .q, .q, .q, .v, .q, .q]) (A := [0, 0, 3, 7, 15, 31, 63, 127, 255, 255, 1023, 2047, 4095, 8191, 16383, 32767, 65535, 131071, 131071, 524287, 1048575, 2097151, 131071, 131071, 12713983, 29491199, 63045631, 134217727, 268435455]) (order := [0, 1, 2, 3, 4, 5, 6, 7, 8, 9, 10, 11, 12, 13, 14, 15, 16, 17, 18, 19, 20, 21, 22, 23, 24, 25, 26, 27, 28]) [] mixed (by kernel_rfl) (fun w hw => hw.pick .nil) ?_
  refine Ym ?_
  refine Ym ?_
  refine Yo rfl (AE (ad' := ad.add (i * 2)) rfl rfl rfl Tryz.underlying22 AW (by omega) (by omega) rfl) ?_
  refine Yo rfl (Bk (ad' := ad.add (i * 2)) rfl rfl AZ (by simp [Addr.add])) ?_
  refine Aj rfl rfl rfl rfl (Ai rfl rfl AI (Ar hU)) ?_
  refine Flow.rel0 rfl rfl rfl rfl (Ao en99 rfl rfl rfl (fun w' hw => C1 e.1 w')) ?_
  rintro _ ⟨b1, rfl, hb1⟩
  refine Yo rfl (Bg rfl rfl) ?_
  refine Ym ?_
  refine Flow.split 17 rfl (fun k4_7 => ?_) (fun k4_7 => ?_)
  ·refine Yk ?_
   refine Yk ?_
   refine Yk ?_
   refine Yk ?_
   refine Yk ?_
   refine Yk ?_
   refine Yk ?_
   refine Yo rfl (Bb rfl rfl rfl) ?_
   refine Ym ?_
   refine Yk ?_
   refine Yk ?_
   refine Yk ?_
   refine Yk ?_
   refine Yk ?_
   refine Yk ?_
   refine Yk ?_
   refine Yk ?_
   refine Yk ?_
   refine Yk ?_
   refine Yk ?_
   refine Yo rfl (Bb rfl rfl rfl) ?_
   refine Flow.end rfl ?_
   simp only [zq, zr]
   refine Fin.then ?_
   refine AM rfl ?_
   refine Zs ?_
   refine Za ?_
   refine Zx <| DC.ret <| Aa <| Ae <| Aa <| Aa <| Ae <| Aa ?_
   refine Fin.weak (E' := [(2, _)]) ⟨rfl, trivial⟩ .nil ?_
   refine Ak (.inl rfl) rfl rfl ?_
   exact ⟨rfl, false, rfl, by simp; intro h; have := h.ok i e he; simp_all⟩
  ·refine Ym ?_
   refine Ym ?_
   refine Yo rfl (AE (ad' := ad.add (i * 2)) rfl rfl rfl Tryz.underlying22 AW (by omega) (by omega) rfl) ?_
   refine Yo rfl (Bk (ad' := ad.add (i * 2 + 1)) rfl rfl Bi (BS _ _ _ (by decide))) ?_
   refine Aj rfl rfl rfl rfl (Ai rfl rfl AI (Ar hV)) ?_
   refine Flow.rel0 rfl rfl rfl rfl (Ao en99 rfl rfl rfl (fun w' hw => C1 e.2 w')) ?_
   rintro _ ⟨b2, rfl, hb2⟩
   refine Yo rfl (Bg rfl rfl) ?_
   refine Yo rfl (Ba rfl rfl rfl) ?_
   refine Ym ?_
   refine Flow.split 26 rfl (fun k4_16 => ?_) (fun k4_16 => ?_)
   ·refine Yk ?_
    refine Yk ?_
    refine Yk ?_
    refine Yk ?_
    refine Yk ?_
    refine Yk ?_
    refine Yk ?_
    refine Yk ?_
    refine Yk ?_
    refine Yk ?_
    refine Yk ?_
    refine Yo rfl (Bb rfl rfl rfl) ?_
    refine Flow.end rfl ?_
    simp only [zq, zr]
    refine Fin.then ?_
    refine AM rfl ?_
    refine Zs ?_
    refine Za ?_
    refine Zx <| DC.ret <| Aa <| Ae <| Aa <| Aa <| Ae <| Aa ?_
    refine Fin.weak (E' := [(2, _)]) ⟨rfl, trivial⟩ .nil ?_
    refine Ak (.inl rfl) rfl rfl ?_
    exact ⟨rfl, false, rfl, by simp; intro h; have := h.ok i e he; simp_all⟩
   ·refine Ym ?_
    refine Ym ?_
    refine Yo rfl (AE (ad' := ad.add (i * 2)) rfl rfl rfl Tryz.underlying22 AW (by omega) (by omega) rfl) ?_
    refine Yo rfl (Bk (ad' := ad.add (i * 2)) rfl rfl AZ (by simp [Addr.add])) ?_
    refine Aj rfl rfl rfl rfl (Ai rfl rfl AI (Ar hU)) ?_
    refine Ym ?_
    refine Ym ?_
    refine Yo rfl (AE (ad' := ad.add (i * 2)) rfl rfl rfl Tryz.underlying22 AW (by omega) (by omega) rfl) ?_
    refine Yo rfl (Bk (ad' := ad.add (i * 2 + 1)) rfl rfl Bi (BS _ _ _ (by decide))) ?_
    refine Aj rfl rfl rfl rfl (Ai rfl rfl AI (Ar hV)) ?_
    refine Yo rfl (Cj rfl rfl rfl) ?_
    refine Yo rfl (Ba rfl rfl rfl) ?_
    refine Flow.end rfl ?_
    simp only [zq, zr]
    refine Fin.then ?_
    refine Zd (fun c4 => ?_) fun c4 => ?_
    ·refine Zs ?_
     refine Za ?_
     refine Zx <| DC.ret <| Aa <| Ae <| Aa <| Aa <| Ae <| Aa ?_
     refine Fin.weak (E' := [(2, _)]) ⟨rfl, trivial⟩ .nil ?_
     refine Ak (.inl rfl) rfl rfl ?_
     exact ⟨rfl, false, rfl, by simp; intro h; have := h.ok i e he; simp_all; omega⟩
    ·refine DC.skip <| Fin.then <| DC.seq ?_
     have hge : Fits e.1 ∧ Fits e.2 ∧ e.1 < e.2 := by
      simp at k4_7 k4_16 c4
      exact ⟨hb1.1 k4_7, hb2.1 k4_16, by omega⟩
     have hok' : ∀ (j : Nat) x, j < i + 1 → es[j]? = some x → Fits x.1 ∧ Fits x.2 ∧ x.1 < x.2 := by
      intro j x hj hx
      rcases Nat.lt_succ_iff_lt_or_eq.1 hj with hj | rfl
      ·exact hok j x hj hx
      ·rw [he] at hx; cases hx; exact hge
     have hup' : (∀ d, 0 < i → es[i - 1]? = some d → Lex d e) → ∀ (j : Nat) a b, j + 1 < i + 1 → es[j]? = some a → es[j + 1]? = some b → Lex a b := by
      intro hlex j a b hj ha hb
      rcases Nat.lt_succ_iff_lt_or_eq.1 hj with hj | hj
      ·exact hup j a b hj ha hb
      ·obtain rfl : j = i - 1 := by omega
       rw [show i - 1 + 1 = i by omega, he] at hb; cases hb
       exact hlex a (by omega) ha
     have hbad : ∀ d, 0 < i → es[i - 1]? = some d → ¬ Lex d e → ¬ EdgesOk es := fun d hi hd hn h => hn (h.up (i - 1) d e hd (by rw [show i - 1 + 1 = i by omega]; exact he))
     refine AD (cl := [.q, .q, .q, .q, .q, .q, .q, .q, .v, .q, .q, .q, .q, .v, .q, .q, .q, .q, .q, .q, .q, .v, .q, .q, .q, .q, .v, .q, .q, .q, .q, .q, .q, .q, .v, .q, .q, .q, .q, .v, .q, .q, .q, .q]) (A := [0, 1, 3, 7, 7, 23, 63, 127, 255, 7, 7, 1543, 3591, 7687, 16383, 32767, 65535, 65535, 196607, 524287, 1048575, 2097151, 65535, 65535, 12648447, 29425663, 62980095, 134217727, 268435455, 536870911, 536870911, 1610612735, 4294967295, 8589934591, 17179869183, 536870911, 536870911, 103616086015, 241055039487, 515932946431, 1099511627775, 2199023255551, 4398046511103, 8796093022207]) (order := [0, 1, 2, 3, 4, 5, 6, 7, 8, 9, 10, 11, 12, 13, 14, 15, 16, 17, 18, 19, 20, 21, 22, 23, 24, 25, 26, 27, 28, 29, 30, 31, 32, 33, 34, 35, 36, 37, 38, 39, 40, 41, 42, 43]) [] mixed (by kernel_rfl) (fun w hw => hw.pick .nil) ?_
     refine Ym ?_
     refine Yo rfl (BC rfl rfl rfl) ?_
     refine Ym ?_
     refine Flow.split 41 rfl (fun k6_2 => ?_) (fun k6_2 => ?_)
     ·have hpos : 0 < i := by simpa using k6_2
      obtain ⟨d, hd⟩ : ∃ d, es[i - 1]? = some d := ⟨_, List.getElem?_eq_getElem (by omega)⟩
      obtain ⟨ad', h', hU', hV'⟩ := hr.pair hd
      cases h'
      have hii : ((i : Int) - 1).toNat = i - 1 := by omega
      refine Ym ?_
      refine Ym ?_
      refine Yo rfl (BA rfl rfl rfl (by omega)) ?_
      refine Yo rfl (AE (ad' := ad.add ((i - 1) * 2)) rfl rfl rfl Tryz.underlying22 AW (by omega) (by omega) (by rw [hii])) ?_
      refine Yo rfl (Bk (ad' := ad.add ((i - 1) * 2)) rfl rfl AZ (by simp [Addr.add])) ?_
      refine Aj rfl rfl rfl rfl (Ai rfl rfl AI (Ar hU')) ?_
      refine Ym ?_
      refine Ym ?_
      refine Yo rfl (AE (ad' := ad.add (i * 2)) rfl rfl rfl Tryz.underlying22 AW (by omega) (by omega) rfl) ?_
      refine Yo rfl (Bk (ad' := ad.add (i * 2)) rfl rfl AZ (by simp [Addr.add])) ?_
      refine Aj rfl rfl rfl rfl (Ai rfl rfl AI (Ar hU)) ?_
      refine Yo rfl (BC rfl rfl rfl) ?_
      refine Ym ?_
      refine Flow.split 54 rfl (fun k6_15 => ?_) (fun k6_15 => ?_)
      ·refine Yk ?_
       refine Yk ?_
       refine Yk ?_
       refine Yk ?_
       refine Yk ?_
       refine Yk ?_
       refine Yk ?_
       refine Yk ?_
       refine Yk ?_
       refine Yk ?_
       refine Yk ?_
       refine Yk ?_
       refine Yk ?_
       refine Yk ?_
       refine Yk ?_
       refine Yk ?_
       refine Yk ?_
       refine Yk ?_
       refine Yk ?_
       refine Yk ?_
       refine Yk ?_
       refine Yk ?_
       refine Yk ?_
       refine Yk ?_
       refine Yk ?_
       refine Yk ?_
       refine Yo rfl (Bb rfl rfl rfl) ?_
       refine Yo rfl (Bb rfl rfl rfl) ?_
       refine Flow.end rfl ?_
       simp only [zq, zr]
       refine Fin.then ?_
       refine AM rfl ?_
       refine Zs ?_
       refine Za ?_
       refine Zx <| DC.ret <| Ae <| Aa <| Aa <| Ae <| Aa ?_
       refine Fin.weak (E' := [(2, _)]) ⟨rfl, trivial⟩ .nil ?_
       refine Ak (.inl rfl) rfl rfl ?_
       exact ⟨rfl, false, rfl, by simp; refine hbad d hpos hd ?_; unfold Lex; simp at k6_15; omega⟩
      ·refine Ym ?_
       refine Ym ?_
       refine Yo rfl (BA rfl rfl rfl (by omega)) ?_
       refine Yo rfl (AE (ad' := ad.add ((i - 1) * 2)) rfl rfl rfl Tryz.underlying22 AW (by omega) (by omega) (by rw [hii])) ?_
       refine Yo rfl (Bk (ad' := ad.add ((i - 1) * 2)) rfl rfl AZ (by simp [Addr.add])) ?_
       refine Aj rfl rfl rfl rfl (Ai rfl rfl AI (Ar hU')) ?_
       refine Ym ?_
       refine Ym ?_
       refine Yo rfl (AE (ad' := ad.add (i * 2)) rfl rfl rfl Tryz.underlying22 AW (by omega) (by omega) rfl) ?_
       refine Yo rfl (Bk (ad' := ad.add (i * 2)) rfl rfl AZ (by simp [Addr.add])) ?_
       refine Aj rfl rfl rfl rfl (Ai rfl rfl AI (Ar hU)) ?_
       refine Yo rfl (AN rfl rfl rfl) ?_
       refine Ym ?_
       refine Flow.split 67 rfl (fun k6_28 => ?_) (fun k6_28 => ?_)
       ·refine Ym ?_
        refine Ym ?_
        refine Yo rfl (BA rfl rfl rfl (by omega)) ?_
        refine Yo rfl (AE (ad' := ad.add ((i - 1) * 2)) rfl rfl rfl Tryz.underlying22 AW (by omega) (by omega) (by rw [hii])) ?_
        refine Yo rfl (Bk (ad' := ad.add ((i - 1) * 2 + 1)) rfl rfl Bi (BS _ _ _ (by decide))) ?_
        refine Aj rfl rfl rfl rfl (Ai rfl rfl AI (Ar hV')) ?_
        refine Ym ?_
        refine Ym ?_
        refine Yo rfl (AE (ad' := ad.add (i * 2)) rfl rfl rfl Tryz.underlying22 AW (by omega) (by omega) rfl) ?_
        refine Yo rfl (Bk (ad' := ad.add (i * 2 + 1)) rfl rfl Bi (BS _ _ _ (by decide))) ?_
        refine Aj rfl rfl rfl rfl (Ai rfl rfl AI (Ar hV)) ?_
        refine Yo rfl (Cj rfl rfl rfl) ?_
        refine Yo rfl (Bb rfl rfl rfl) ?_
        refine Yo rfl (Ba rfl rfl rfl) ?_
        refine Yo rfl (Bb rfl rfl rfl) ?_
        refine Flow.end rfl ?_
        simp only [zq, zr]
        refine Fin.then ?_
        refine Zd (fun c6 => ?_) fun c6 => ?_
        ·refine Zs ?_
         refine Za ?_
         refine Zx <| DC.ret <| Ae <| Aa <| Aa <| Ae <| Aa ?_
         refine Fin.weak (E' := [(2, _)]) ⟨rfl, trivial⟩ .nil ?_
         refine Ak (.inl rfl) rfl rfl ?_
         exact ⟨rfl, false, rfl, by simp; refine hbad d hpos hd ?_; unfold Lex; simp at k6_15 k6_28 c6; omega⟩
        ·refine DC.skip <| Fin.inBlock <| Fin.then <| DC.region ?_
         refine Zm ?_
         refine Zp ?_
         refine Za ?_
         refine Seq.nil ?_
         refine Fin.again (i + 1) (by omega) ⟨by omega, hok', hup' fun d' _ hd' => ?_⟩ ⟨rfl, rfl, trivial⟩ .nil
         rw [hd] at hd'; cases hd'
         unfold Lex; simp at k6_15 k6_28 c6; omega
       ·refine Yk ?_
        refine Yk ?_
        refine Yk ?_
        refine Yk ?_
        refine Yk ?_
        refine Yk ?_
        refine Yk ?_
        refine Yk ?_
        refine Yk ?_
        refine Yk ?_
        refine Yk ?_
        refine Yk ?_
        refine Yo rfl (Ba rfl rfl rfl) ?_
        refine Yo rfl (Ba rfl rfl rfl) ?_
        refine Yo rfl (Bb rfl rfl rfl) ?_
        refine Flow.end rfl ?_
        simp only [zq, zr]
        refine Fin.then ?_
        refine AT rfl ?_
        refine DC.skip <| Fin.inBlock <| Fin.then <| DC.region ?_
        refine Zm ?_
        refine Zp ?_
        refine Za ?_
        refine Seq.nil ?_
        refine Fin.again (i + 1) (by omega) ⟨by omega, hok', hup' fun d' _ hd' => ?_⟩ ⟨rfl, rfl, trivial⟩ .nil
        rw [hd] at hd'; cases hd'
        unfold Lex; simp at k6_15 k6_28; omega
     ·refine Yk ?_
      refine Yk ?_
      refine Yk ?_
      refine Yk ?_
      refine Yk ?_
      refine Yk ?_
      refine Yk ?_
      refine Yk ?_
      refine Yk ?_
      refine Yk ?_
      refine Yk ?_
      refine Yk ?_
      refine Yk ?_
      refine Yk ?_
      refine Yk ?_
      refine Yk ?_
      refine Yk ?_
      refine Yk ?_
      refine Yk ?_
      refine Yk ?_
      refine Yk ?_
      refine Yk ?_
      refine Yk ?_
      refine Yk ?_
      refine Yk ?_
      refine Yk ?_
      refine Yk ?_
      refine Yk ?_
      refine Yk ?_
      refine Yk ?_
      refine Yk ?_
      refine Yk ?_
      refine Yk ?_
      refine Yk ?_
      refine Yk ?_
      refine Yk ?_
      refine Yk ?_
      refine Yk ?_
      refine Yk ?_
      refine Yk ?_
      refine Yo rfl (Ba rfl rfl rfl) ?_
      refine Flow.end rfl ?_
      simp only [zq, zr]
      refine Fin.then ?_
      refine AT rfl ?_
      refine DC.skip <| Fin.inBlock <| Fin.then <| DC.region ?_
      refine Zm ?_
      refine Zp ?_
      refine Za ?_
      refine Seq.nil ?_
      refine Fin.again (i + 1) (by omega) ⟨by omega, hok', hup' fun d' h0 hd' => ?_⟩ ⟨rfl, rfl, trivial⟩ .nil
      simp at k6_2; omega
 ·refine DC.exit <| Ad <| Ad <| Ag <| Fin.then <| Zs ?_
  refine Zm ?_
  refine Zn Tryz.underlying22 ?_
  refine Zo (Iv rfl rfl rfl) ?_
  refine Za ?_
  refine Zx <| DC.ret ?_
  refine Fin.weak (E' := [(2, _)]) ⟨rfl, trivial⟩ .nil ?_
  refine Ak (.inl rfl) rfl rfl ?_
  have hil : i = es.length := by simp at c2; omega
  subst hil
  refine ⟨rfl, _, rfl, ?_⟩
  constructor
  ·intro h
   exact ⟨by simp at h; omega, fun j e he => hok j e (List.getElem?_eq_some_iff.1 he).1 he, fun j a b ha hb => hup j a b (List.getElem?_eq_some_iff.1 hb).1 ha hb⟩
  ·intro h
   have := h.few
   simp; omega
structure TxI where
 k : Nat
 s : List UInt8
theorem dec_one {u : Nat} (h : u < 10) : Lib.decDigits u = [UInt8.ofNat (48 + u)] := by rw [Lib.decDigits, dif_pos h]
theorem dec_more {u : Nat} (h : ¬ u < 10) : Lib.decDigits u = Lib.decDigits (u / 10) ++ [UInt8.ofNat (48 + u % 10)] := by rw [Lib.decDigits, dif_neg h]
theorem u8_nat {d : Nat} (h : d < 10) : (((UInt8.ofNat (48 + d)).toNat : Nat) : Int) = 48 + (d : Int) := by
 have : (UInt8.ofNat (48 + d)).toNat = 48 + d := by
  rw [UInt8.toNat_ofNat']
  omega
 rw [this]; omega
theorem CB {a : Nat} {w : World} (ha : a ≤ 1000000000) : Calls Tryz.prog 62 #[.int .i64 a] w (Ret w [] fun v L => L = [] ∧ v = str (Lib.itoa a)) := by
 have hito : Lib.itoa (a : Int) = Lib.decDigits a := by unfold Lib.itoa; rw [if_neg (by omega)]; rfl
 rw [hito]
 have hdl := CU 9 a (by omega)
 refine At (args := [_]) (L := []) Tryz.func62 rfl Tryz.ntmps62 rfl (Own.start _ _) ?_
 refine Zs ?_
 refine Za ?_
 refine Zx <| DC.seq <| Zs ?_
 refine Zm ?_
 refine Zo (AN rfl rfl rfl) ?_
 refine Zx ?_
 refine Zd (fun c1 => ?_) fun c1 => ?_
 ·refine Zs ?_
  refine Za ?_
  refine Zx <| DC.ret <| Aa ?_
  refine Fin.weak (E' := [(2, _)]) ⟨rfl, trivial⟩ .nil ?_
  refine Ak (.inl rfl) rfl rfl ?_
  have h0 : a = 0 := by simp at c1; omega
  subst h0
  exact ⟨rfl, by rw [dec_one (by decide)]; rfl⟩
 ·refine DC.skip <| Fin.then <| Zs ?_
  refine Za ?_
  refine Zx <| DC.seq <| Zs ?_
  refine Zm ?_
  refine Za ?_
  refine Zx <| DC.block ?_
  have ha0 : a ≠ 0 := by simp at c1; omega
  refine DC.loop (ι := TxI) (fun j => j.k ≤ a ∧ (if j.k = 0 then j.s = Lib.decDigits a else Lib.decDigits j.k ++ j.s = Lib.decDigits a))
   (fun j => [(0, .int .i64 a), (3, str j.s), (4, .int .i64 j.k)]) (fun j => []) (fun j => j.k) ⟨a, []⟩ ⟨Nat.le_refl _, by rw [if_neg ha0]; simp⟩ ⟨rfl, rfl, rfl, trivial⟩ .nil ?_
  rintro ⟨k, s⟩ ⟨hk, hs⟩
  dsimp only at hk hs ⊢
  refine DC.seq <| Zs ?_
  refine Zm ?_
  refine Zo (BB rfl rfl rfl) ?_
  refine Zx ?_
  refine Zd (fun c5 => ?_) fun c5 => ?_
  ·have hk0 : k ≠ 0 := by simp at c5; omega
   rw [if_neg hk0] at hs
   have hsl : s.length ≤ 10 := by have := congrArg List.length hs; simp at this; omega
   have hmod : (k : Int) % 10 = ((k % 10 : Nat) : Int) := by omega
   have hdiv : (k : Int) / 10 = ((k / 10 : Nat) : Int) := by omega
   have hd : k % 10 < 10 := Nat.mod_lt _ (by decide)
   have hcell : (Value.int .u8 (48 + (k : Int) % 10)) = .int .u8 (UInt8.ofNat (48 + k % 10)).toNat := by rw [u8_nat hd, hmod]
   have hstep : if k / 10 = 0 then UInt8.ofNat (48 + k % 10) :: s = Lib.decDigits a else Lib.decDigits (k / 10) ++ UInt8.ofNat (48 + k % 10) :: s = Lib.decDigits a := by
    by_cases hz : k / 10 = 0
    ·rw [if_pos hz, ← hs, dec_one (by omega), Nat.mod_eq_of_lt (by omega)]; rfl
    ·rw [if_neg hz, ← hs, dec_more (u := k) (by omega)]; simp
   refine DC.skip <| Fin.then <| DC.seq <| DC.block <| Zs ?_
   refine Zm ?_
   refine Zo (Is rfl rfl rfl (by omega) (by omega)) ?_
   refine Za ?_
   refine Zx <| DC.seq <| Zs ?_
   refine Zm ?_
   refine Zc ?_
   refine Zx ?_
   refine Zd (fun c8 => ?_) fun c8 => ?_
   ·simp at c8; omega
   ·refine DC.skip <| Fin.then <| DC.region ?_
    refine Zm ?_
    refine Zp ?_
    refine Zo (p_conv_u8 rfl rfl Tryz.underlying3 Tryz.underlying5 (by omega) (by omega)) ?_
    refine Zw (AP (cs := #[_]) rfl rfl Tryz.underlying47 FR GS rfl (by decide) (by decide) rfl rfl) fun g22 => ?_
    refine Zu (Ei (l := [UInt8.ofNat (48 + k % 10)]) rfl rfl rfl Tryz.underlying47 Tryz.underlying5 Tryz.underlying9 (Am (by simp only [hcell]; rfl))) ?_
    refine Zm ?_
    refine Zo (Fu rfl rfl rfl (by simp; omega)) ?_
    refine Za ?_
    refine Seq.nil <| Fin.inBlock <| Fin.then <| DC.region ?_
    refine Zm ?_
    refine Zo (Iu rfl rfl rfl (by omega) (by omega)) ?_
    refine Za ?_
    refine Seq.nil ?_
    refine Fin.again ⟨k / 10, UInt8.ofNat (48 + k % 10) :: s⟩ (by dsimp only; omega) ⟨by dsimp only; omega, hstep⟩ ⟨rfl, rfl, by rw [hdiv]; rfl, trivial⟩ .nil
  ·refine DC.exit <| Ad <| Ad <| Ag <| Fin.then <| DC.seq <| Zs ?_
   refine Zm ?_
   refine Zc ?_
   refine Zx ?_
   refine Zd (fun c11 => ?_) fun c11 => ?_
   ·simp at c11; omega
   ·refine DC.skip <| Fin.then <| Zs ?_
    refine Zm ?_
    refine Za ?_
    refine Zx <| DC.ret ?_
    refine Fin.weak (E' := [(2, _)]) ⟨rfl, trivial⟩ .nil ?_
    refine Ak (.inl rfl) rfl rfl ?_
    have hk0 : k = 0 := by simp at c5; omega
    rw [if_pos hk0] at hs
    exact ⟨rfl, by rw [hs]⟩
end Go.Fl

namespace Go.Proofs
open Go.Shelf
def Tryz.lays170_ren : Go.Shelf.Ren := ⟨fun | 170 => 44 | n => n, fun | 70 => 93 | 3 => 3 | 0 => 0 | 72 => 95 | 37 => 47 | 5 => 5 | n => n, fun | n => n⟩
theorem JR : Go.Proofs.Lays.n170 Tryz.prog Tryz.lays170_ren := {
 mixed := by kernel_rfl
 f170 := Tryz.func44.trans (congrArg some (by kernel_rfl))
 t0 := Tryz.underlying0
 a0 := Tryz.isAgg0
 z0 := Tryz.sizeOf0
 v0 := Tryz.zeroValue0
 t3 := Tryz.underlying3
 a3 := Tryz.isAgg3
 z3 := Tryz.sizeOf3
 v3 := Tryz.zeroValue3
 t37 := Tryz.underlying47
 a37 := Tryz.isAgg47
 z37 := Tryz.sizeOf47
 v37 := Tryz.zeroValue47
 t70 := Tryz.underlying93
 a70 := Tryz.isAgg93
 z70 := Tryz.sizeOf93
 v70 := Tryz.zeroValue93
 t72 := Tryz.underlying95
 a72 := Tryz.isAgg95
 z72 := Tryz.sizeOf95
 v72 := Tryz.zeroValue95 }
open Go.RowKit in
theorem Tryz.Builder_Len (B b : Nat) (bs : List Value) (w : World) (h : Lib.IsBuilder 95 5 B b bs w) :
  Calls Tryz.prog 44 #[.pointer (some ⟨b, 0, none⟩)] w fun e w' => e = .returned (.int .i64 bs.length) ∧ w' = w := Any.Builder_Len JR B b bs w h
def Tryz.lays169_ren : Go.Shelf.Ren := ⟨fun | 169 => 45 | n => n, fun | 70 => 93 | 9 => 9 | 0 => 0 | 72 => 95 | 37 => 47 | 127 => 152 | 3 => 3 | 5 => 5 | n => n, fun | n => n⟩
theorem JS : Go.Proofs.Lays.n169 Tryz.prog Tryz.lays169_ren := {
 mixed := by kernel_rfl
 f169 := Tryz.func45.trans (congrArg some (by kernel_rfl))
 t0 := Tryz.underlying0
 a0 := Tryz.isAgg0
 z0 := Tryz.sizeOf0
 v0 := Tryz.zeroValue0
 t3 := Tryz.underlying3
 a3 := Tryz.isAgg3
 z3 := Tryz.sizeOf3
 v3 := Tryz.zeroValue3
 t9 := Tryz.underlying9
 a9 := Tryz.isAgg9
 z9 := Tryz.sizeOf9
 v9 := Tryz.zeroValue9
 t37 := Tryz.underlying47
 a37 := Tryz.isAgg47
 z37 := Tryz.sizeOf47
 v37 := Tryz.zeroValue47
 t70 := Tryz.underlying93
 a70 := Tryz.isAgg93
 z70 := Tryz.sizeOf93
 v70 := Tryz.zeroValue93
 t72 := Tryz.underlying95
 a72 := Tryz.isAgg95
 z72 := Tryz.sizeOf95
 v72 := Tryz.zeroValue95
 t127 := Tryz.underlying152
 a127 := Tryz.isAgg152
 z127 := Tryz.sizeOf152
 v127 := Tryz.zeroValue152 }
theorem D9 : Builder.Extra Tryz.prog Tryz.lays169_ren := {
 sizeBuilder := by kernel_rfl
 liesBuilder := by kernel_rfl
 t5 := Tryz.underlying5
 a5 := Tryz.isAgg5
 z5 := Tryz.sizeOf5
 v5 := Tryz.zeroValue5
 infoByte := by kernel_rfl
 cellsByte := by kernel_rfl
 sizeByte := by kernel_rfl
 neB5 := by decide }
open Go.RowKit in
theorem Tryz.Builder_String_any (B b : Nat) (l : List UInt8) (w : World) (h : Lib.IsBuilder 95 5 B b (Lib.byteCells l) w) (hBw : B ≤ w.heap.size) :
  Calls Tryz.prog 45 #[.pointer (some ⟨b, 0, none⟩)] w fun e w' => e = .returned (.string ⟨l.toArray⟩) ∧ Below B w w' := Any.Builder_String_any JS D9 B b l w h hBw
def Tryz.lays156_ren : Go.Shelf.Ren := ⟨fun | 156 => 84 | 165 => 111 | 166 => 42 | 169 => 45 | 240 => 82 | 241 => 147 | 276 => 109 | 277 => 172 | n => n, fun | 31 => 150 | 9 => 9 | 3 => 3 | 4 => 4 | 0 => 0 | 20 => 20 | 72 => 95 | 76 => 98 | 70 => 93 | 37 => 47 | 75 => 97 | 127 => 152 | 164 => 181 | 5 => 5 | 80 => 102 | n => n, fun | n => n⟩
theorem D8 : Go.Proofs.Lays.n156 Tryz.prog Tryz.lays156_ren := {
 mixed := by kernel_rfl
 f156 := Tryz.func84.trans (congrArg some (by kernel_rfl))
 f165 := Tryz.func111.trans (congrArg some (by kernel_rfl))
 f166 := Tryz.func42.trans (congrArg some (by kernel_rfl))
 f169 := Tryz.func45.trans (congrArg some (by kernel_rfl))
 f240 := Tryz.func82.trans (congrArg some (by kernel_rfl))
 f241 := Tryz.func147.trans (congrArg some (by kernel_rfl))
 f276 := Tryz.func109.trans (congrArg some (by kernel_rfl))
 f277 := Tryz.func172.trans (congrArg some (by kernel_rfl))
 t0 := Tryz.underlying0
 a0 := Tryz.isAgg0
 z0 := Tryz.sizeOf0
 v0 := Tryz.zeroValue0
 t3 := Tryz.underlying3
 a3 := Tryz.isAgg3
 z3 := Tryz.sizeOf3
 v3 := Tryz.zeroValue3
 t4 := Tryz.underlying4
 a4 := Tryz.isAgg4
 z4 := Tryz.sizeOf4
 v4 := Tryz.zeroValue4
 t9 := Tryz.underlying9
 a9 := Tryz.isAgg9
 z9 := Tryz.sizeOf9
 v9 := Tryz.zeroValue9
 t20 := Tryz.underlying20
 a20 := Tryz.isAgg20
 z20 := Tryz.sizeOf20
 v20 := Tryz.zeroValue20
 t31 := Tryz.underlying150
 a31 := Tryz.isAgg150
 z31 := Tryz.sizeOf150
 v31 := Tryz.zeroValue150
 t37 := Tryz.underlying47
 a37 := Tryz.isAgg47
 z37 := Tryz.sizeOf47
 v37 := Tryz.zeroValue47
 t70 := Tryz.underlying93
 a70 := Tryz.isAgg93
 z70 := Tryz.sizeOf93
 v70 := Tryz.zeroValue93
 t72 := Tryz.underlying95
 a72 := Tryz.isAgg95
 z72 := Tryz.sizeOf95
 v72 := Tryz.zeroValue95
 t75 := Tryz.underlying97
 a75 := Tryz.isAgg97
 z75 := Tryz.sizeOf97
 v75 := Tryz.zeroValue97
 t76 := Tryz.underlying98
 a76 := Tryz.isAgg98
 z76 := Tryz.sizeOf98
 v76 := Tryz.zeroValue98
 t127 := Tryz.underlying152
 a127 := Tryz.isAgg152
 z127 := Tryz.sizeOf152
 v127 := Tryz.zeroValue152
 t164 := Tryz.underlying181
 a164 := Tryz.isAgg181
 z164 := Tryz.sizeOf181
 v164 := Tryz.zeroValue181 }
theorem B4 : Builder.Extra Tryz.prog Tryz.lays156_ren := {
 sizeBuilder := by kernel_rfl
 liesBuilder := by kernel_rfl
 t5 := Tryz.underlying5
 a5 := Tryz.isAgg5
 z5 := Tryz.sizeOf5
 v5 := Tryz.zeroValue5
 infoByte := by kernel_rfl
 cellsByte := by kernel_rfl
 sizeByte := by kernel_rfl
 neB5 := by decide }
open Go.RowKit in
theorem Tryz.strings_Join_none (a : Option Addr) (c : Nat) (sep : ByteArray) (w : World) :
  Calls Tryz.prog 84 #[.slice a 0 c, .string sep] w fun e w' => e = .returned (.string ⟨#[]⟩) ∧ w' = w := Any.strings_Join_none D8 B4 a c sep w
open Go.RowKit in
theorem Tryz.strings_Join (bk o c : Nat) (xs : List ByteArray) (sep : ByteArray) (w : World) (hcells : ∀ (j : Nat) x, xs[j]? = some x → w.cell? ⟨bk, o + j, none⟩ = some (.string x)) (hbk : bk < w.heap.size) (hN : xs.length ≤ 140737488355328) (hcap : xs.length ≤ c) (hlen : (Lib.join (xs.map (·.data.toList)) sep.data.toList).length ≤ 140737488355328) :
  Calls Tryz.prog 84 #[.slice (some ⟨bk, o, none⟩) xs.length c, .string sep] w fun e w' => e = .returned (.string ⟨(Lib.join (xs.map (·.data.toList)) sep.data.toList).toArray⟩) ∧ Below w.heap.size w w' := Any.strings_Join D8 B4 bk o c xs sep w hcells hbk hN hcap hlen
def Tryz.laysM171_ren : Go.Shelf.Ren := ⟨fun | 171 => 110 | 243 => 146 | 246 => 171 | 283 => 185 | 284 => 186 | 285 => 187 | 286 => 188 | 129 => 145 | 317 => 196 | 318 => 197 | 319 => 198 | 320 => 199 | 337 => 202 | 338 => 203 | n => n, fun | 3 => 3 | 9 => 9 | 2 => 2 | 4 => 4 | 171 => 256 | 0 => 0 | 53 => 221 | 37 => 47 | 5 => 5 | 173 => 258 | 212 => 265 | 51 => 219 | 20 => 20 | 213 => 266 | 46 => 180 | 232 => 267 | 233 => 268 | n => n, fun | 17 => 1 | 18 => 2 | 19 => 3 | n => n⟩
theorem Ie : Go.Proofs.LaysM.n171 Tryz.prog Tryz.laysM171_ren := {
 mixed := by kernel_rfl
 f129 := Tryz.func145.trans (congrArg some (by kernel_rfl))
 f171 := Tryz.func110.trans (congrArg some (by kernel_rfl))
 f243 := Tryz.func146.trans (congrArg some (by kernel_rfl))
 f246 := Tryz.func171.trans (congrArg some (by kernel_rfl))
 f283 := Tryz.func185.trans (congrArg some (by kernel_rfl))
 f284 := Tryz.func186.trans (congrArg some (by kernel_rfl))
 f285 := Tryz.func187.trans (congrArg some (by kernel_rfl))
 f286 := Tryz.func188.trans (congrArg some (by kernel_rfl))
 f317 := Tryz.func196.trans (congrArg some (by kernel_rfl))
 f318 := Tryz.func197.trans (congrArg some (by kernel_rfl))
 f319 := Tryz.func198.trans (congrArg some (by kernel_rfl))
 f320 := Tryz.func199.trans (congrArg some (by kernel_rfl))
 f337 := Tryz.func202.trans (congrArg some (by kernel_rfl))
 f338 := Tryz.func203.trans (congrArg some (by kernel_rfl))
 t0 := Tryz.underlying0
 a0 := Tryz.isAgg0
 z0 := Tryz.sizeOf0
 v0 := Tryz.zeroValue0
 t2 := Tryz.underlying2
 a2 := Tryz.isAgg2
 z2 := Tryz.sizeOf2
 v2 := Tryz.zeroValue2
 t3 := Tryz.underlying3
 a3 := Tryz.isAgg3
 z3 := Tryz.sizeOf3
 v3 := Tryz.zeroValue3
 t4 := Tryz.underlying4
 a4 := Tryz.isAgg4
 z4 := Tryz.sizeOf4
 v4 := Tryz.zeroValue4
 t5 := Tryz.underlying5
 a5 := Tryz.isAgg5
 z5 := Tryz.sizeOf5
 v5 := Tryz.zeroValue5
 t9 := Tryz.underlying9
 a9 := Tryz.isAgg9
 z9 := Tryz.sizeOf9
 v9 := Tryz.zeroValue9
 t20 := Tryz.underlying20
 a20 := Tryz.isAgg20
 z20 := Tryz.sizeOf20
 v20 := Tryz.zeroValue20
 t37 := Tryz.underlying47
 a37 := Tryz.isAgg47
 z37 := Tryz.sizeOf47
 v37 := Tryz.zeroValue47
 t46 := Tryz.underlying180
 a46 := Tryz.isAgg180
 z46 := Tryz.sizeOf180
 v46 := Tryz.zeroValue180
 t51 := Tryz.underlying219
 a51 := Tryz.isAgg219
 z51 := Tryz.sizeOf219
 v51 := Tryz.zeroValue219
 t53 := Tryz.underlying221
 a53 := Tryz.isAgg221
 z53 := Tryz.sizeOf221
 v53 := Tryz.zeroValue221
 t171 := Tryz.underlying256
 a171 := Tryz.isAgg256
 z171 := Tryz.sizeOf256
 v171 := Tryz.zeroValue256
 t173 := Tryz.underlying258
 a173 := Tryz.isAgg258
 z173 := Tryz.sizeOf258
 v173 := Tryz.zeroValue258
 t212 := Tryz.underlying265
 a212 := Tryz.isAgg265
 z212 := Tryz.sizeOf265
 v212 := Tryz.zeroValue265
 t213 := Tryz.underlying266
 a213 := Tryz.isAgg266
 z213 := Tryz.sizeOf266
 t232 := Tryz.underlying267
 a232 := Tryz.isAgg267
 z232 := Tryz.sizeOf267
 v232 := Tryz.zeroValue267
 t233 := Tryz.underlying268
 a233 := Tryz.isAgg268
 z233 := Tryz.sizeOf268
 v233 := Tryz.zeroValue268
 g17 := by kernel_rfl
 g18 := by kernel_rfl
 g19 := by kernel_rfl
 i0 := by kernel_rfl
 i2 := by kernel_rfl
 i3 := by kernel_rfl
 i4 := by kernel_rfl
 i5 := by kernel_rfl
 i9 := by kernel_rfl
 i20 := by kernel_rfl
 i37 := by kernel_rfl
 i46 := by kernel_rfl
 i51 := by kernel_rfl
 i53 := by kernel_rfl
 i171 := by kernel_rfl
 i173 := by kernel_rfl
 i212 := by kernel_rfl
 i232 := by kernel_rfl
 i233 := by kernel_rfl
 m17 := by kernel_rfl
 m18 := by kernel_rfl
 m19 := by kernel_rfl }
open Go.RowKit Go.Sort Go.Lib in
theorem Tryz.strconv_Itoa (n : Int) (h0 : -9223372036854775808 ≤ n) (h1 : n ≤ 9223372036854775807) (w : World) (htab : Lib.TabIs Tryz.prog w "internal/strconv.uint64pow10" .u64 Lib.pow10Tab) :
  Calls Tryz.prog 110 #[.int .i64 n] w fun e w' => e = .returned (.string ⟨(Lib.itoa n).toArray⟩) ∧ ∃ k os, w' = grow (w.drewN k) os := Any.strconv_Itoa Ie n h0 h1 w htab
def Tryz.lays112_ren : Go.Shelf.Ren := ⟨fun | 112 => 53 | n => n, fun | 28 => 44 | 3 => 3 | 4 => 4 | 0 => 0 | n => n, fun | n => n⟩
theorem FP : Go.Proofs.Lays.n112 Tryz.prog Tryz.lays112_ren := {
 mixed := by kernel_rfl
 f112 := Tryz.func53.trans (congrArg some (by kernel_rfl))
 t0 := Tryz.underlying0
 a0 := Tryz.isAgg0
 z0 := Tryz.sizeOf0
 v0 := Tryz.zeroValue0
 t3 := Tryz.underlying3
 a3 := Tryz.isAgg3
 z3 := Tryz.sizeOf3
 v3 := Tryz.zeroValue3
 t4 := Tryz.underlying4
 a4 := Tryz.isAgg4
 z4 := Tryz.sizeOf4
 v4 := Tryz.zeroValue4
 t28 := Tryz.underlying44
 a28 := Tryz.isAgg44
 z28 := Tryz.sizeOf44
 v28 := Tryz.zeroValue44 }
open Go.RowKit Go.Lib Go.Sort in
theorem Tryz.slices_Reverse_int (blk off cap : Nat) (zs : List Int) (w : World) (hH : Holds (Value.int .i64) w blk off zs.toArray) (hsz : zs.length ≤ 9223372036854775807) :
  Calls Tryz.prog 53 #[.slice (some ⟨blk, off, none⟩) zs.length cap] w fun e w' => e = .returned (.tuple #[]) ∧ ∃ n, w' = putRow (Value.int .i64) (Sort.ahead w n) blk off zs.reverse.toArray := Any.slices_Reverse_int FP blk off cap zs w hH hsz
open Go.RowKit Go.Lib Go.Sort in
theorem Tryz.slices_Reverse_int_empty (a : Option Addr) (cap : Nat) (w : World) :
  Calls Tryz.prog 53 #[.slice a 0 cap] w fun e w' => e = .returned (.tuple #[]) ∧ w' = w := Any.slices_Reverse_int_empty FP a cap w
def Tryz.laysNm215_ren : Go.Shelf.Ren := ⟨fun | 15 => 52 | n => n, fun | 22 => 44 | 3 => 3 | 4 => 4 | n => n, fun | n => n⟩
theorem Dm : Go.Proofs.Lays2.n15 Tryz.prog Tryz.laysNm215_ren := {
 mixed := by kernel_rfl
 f15 := Tryz.func52.trans (congrArg some (by kernel_rfl))
 t3 := Tryz.underlying3
 a3 := Tryz.isAgg3
 z3 := Tryz.sizeOf3
 v3 := Tryz.zeroValue3
 t4 := Tryz.underlying4
 a4 := Tryz.isAgg4
 z4 := Tryz.sizeOf4
 v4 := Tryz.zeroValue4
 t22 := Tryz.underlying44
 a22 := Tryz.isAgg44
 z22 := Tryz.sizeOf44
 v22 := Tryz.zeroValue44
 i3 := by kernel_rfl }
open Go.RowKit Go.Lib in
theorem Tryz.slices_Clone_int (b off n c : Nat) (zs : List Int) (w : World) (hz : n ≤ zs.length) (hbig : n * 8 ≤ 140737488355328) (hc : ∀ j, j < zs.length → w.cell? ⟨b, off + j, none⟩ = some (.int .i64 (zs.getD j 0))) :
  Calls Tryz.prog 52 #[.slice (some ⟨b, off, none⟩) n c] w fun e w' => ∃ v', e = .returned v' ∧ w'.ownsRow w.heap.size 3 1 v' n ((zs.take n).map (Value.int .i64)) ∧ v' ≠ .slice none 0 0 ∧ Below w.heap.size w w' := Any.slices_Clone_int Dm b off n c zs w hz hbig hc
open Go.RowKit Go.Lib in
theorem Tryz.slices_Clone_int_nil (n c : Nat) (w : World) :
  Calls Tryz.prog 52 #[.slice none n c] w fun e w' => e = .returned (.slice none 0 0) ∧ w' = w := Any.slices_Clone_int_nil Dm n c w
open Go.RowKit Go.Lib in
theorem Tryz.slices_Clone_int_zero (a : Addr) (c : Nat) (w : World) :
  Calls Tryz.prog 52 #[.slice (some a) 0 c] w fun e w' => ∃ v', e = .returned v' ∧ w'.ownsRow w.heap.size 3 1 v' 0 [] ∧ v' ≠ .slice none 0 0 ∧ Below w.heap.size w w' := Any.slices_Clone_int_zero Dm a c w
open Go.RowKit in
theorem Tryz.Builder_WriteString (B b : Nat) (bs : List Value) (s : ByteArray) (w : World) (h : Lib.IsBuilder 95 5 B b bs w) (hlen : bs.length + s.size ≤ 140737488355328) (hBw : B ≤ w.heap.size) :
  Calls Tryz.prog 42 #[.pointer (some ⟨b, 0, none⟩), .string s] w fun e w' => e = .returned (.tuple #[.int .i64 s.size, .nilIface]) ∧ (Lib.BuilderAt 95 5 B b (.pointer (some ⟨b, 0, none⟩)) (bs ++ Lib.strCells s) w' ∧ Below B w w') :=
 Any.Builder_WriteString { D8 with } B4 B b bs s w h hlen hBw
end Go.Proofs

namespace Go.Fl
open Go Go.Proofs
def Pow (w : World) : Prop := Lib.TabIs Tryz.prog w "internal/strconv.uint64pow10" .u64 Lib.pow10Tab
theorem Pow.keep0 {w0 w : World} {L : List Chunk} (h : Pow w0) (hw : Own w0 [] w L) : Pow w := by
 unfold Pow Lib.TabIs World.var? at *
 cases hg : Tryz.prog.globalNamed "internal/strconv.uint64pow10" with
 | none => rw [hg] at h; cases h
 | some g =>
  rw [hg] at h
  simp only [Option.bind_some] at h ⊢
  have hlt : g < w0.heap.size := by
   rcases Nat.lt_or_ge g w0.heap.size with h1 | h1
   ·exact h1
   ·rw [Array.getElem?_eq_none h1] at h; cases h
  rw [hw.old g hlt (by simp)]; exact h
theorem LX {a : Int} {w : World} (ha : I64 a) (hp : Pow w) : Calls Tryz.prog 110 #[.int .i64 a] w (Ret w [] fun v L => L = [] ∧ v = str (Lib.itoa a)) := by
 refine (Tryz.strconv_Itoa a ha.1 ha.2 w hp).mono ?_
 rintro e w' ⟨rfl, k, os, rfl⟩
 exact ⟨_, [], rfl, ⟨rfl, rfl⟩, Ko w k os⟩
theorem Lp {a : Int} {w : World} (ha : I64 a) (hp : Pow w) : Calls Tryz.prog 83 #[.int .i64 a] w (Ret w [] fun v L => L = [] ∧ v = str (Lib.itoa a)) := by
 refine At (args := [_]) (L := []) Tryz.func83 rfl Tryz.ntmps83 rfl (Own.start _ _) ?_
 refine Zs ?_
 refine Za ?_
 refine Zx <| Zs ?_
 refine Zm ?_
 refine Seq.rel0 rfl rfl (Ao en110 rfl rfl rfl (fun w hw => LX ha (hp.keep0 hw))) ?_
 rintro _ rfl
 refine Za ?_
 refine Zx <| DC.ret ?_
 refine Ak (.inl rfl) rfl rfl ?_
 exact ⟨rfl, rfl⟩
theorem KE {c : Nat} {w : World} : Calls Tryz.prog 84 #[.slice none 0 c, str [32]] w (Ret w [] fun v L => L = [] ∧ v = str []) := by
 refine (Tryz.strings_Join_none none c _ w).mono ?_
 rintro e w' ⟨rfl, rfl⟩
 exact ⟨_, [], rfl, ⟨rfl, rfl⟩, Own.start _ _⟩
theorem KD {g c t : Nat} {xs : List (List UInt8)} {sp : List Value} {w : World} (hb : w.heap[g]? = some (.cells (strs xs ++ sp).toArray t (0, 0))) (hN : xs.length ≤ 140737488355328) (hc : xs.length ≤ c) (hl : (Lib.join xs [32]).length ≤ 140737488355328) :
  Calls Tryz.prog 84 #[.slice (some ⟨g, 0, none⟩) xs.length c, str [32]] w (Ret w [] fun v L => L = [] ∧ v = str (Lib.join xs [32])) := by
 have e1 : (xs.map fun l => (⟨l.toArray⟩ : ByteArray)).map (·.data.toList) = xs := by rw [List.map_map]; exact List.map_id'' (fun _ => rfl) xs
 have h := Tryz.strings_Join g 0 c (xs.map fun l => (⟨l.toArray⟩ : ByteArray)) ⟨[32].toArray⟩ w ?_ ?_ (by simpa using hN) (by simpa using hc) (by rw [e1]; exact hl)
 ·rw [e1] at h
  simp only [List.length_map] at h
  refine h.mono ?_
  rintro e w' ⟨rfl, hbl⟩
  exact ⟨_, [], rfl, ⟨rfl, rfl⟩, own_below hbl⟩
 ·intro j x hj
  simp only [List.getElem?_map, Option.map_eq_some_iff] at hj
  obtain ⟨l, hl, rfl⟩ := hj
  rw [cell_of_row w g _ _ t (0, 0) hb]
  have : j < xs.length := (List.getElem?_eq_some_iff.1 hl).1
  rw [List.getElem?_eq_getElem this] at hl; cases hl
  simp [strs, List.getElem?_append, this, str]
 ·exact (Array.getElem?_eq_some_iff.1 hb).1
theorem LW {xs : List (List UInt8)} {v : Value} {w0 w : World} {K : List Nat} {F : List Chunk} (hO : Own w0 K w (slc v 9 1 (strs xs) :: F)) (hN : xs.length ≤ 140737488355328) (hl : (Lib.join xs [32]).length ≤ 140737488355328) :
  Calls Tryz.prog 84 #[v, str [32]] w (Ret w [] fun v L => L = [] ∧ v = str (Lib.join xs [32])) := by
 rcases B8 hO with ⟨rfl, e2, _⟩ | ⟨g, len, cap', sp, rfl, e2, e3, e4, e5, hO'⟩
 ·have e3 : xs = [] := by simpa [strs] using e2
  subst e3; exact KE
 ·have e6 : len = xs.length := by simpa [strs] using e2.symm
  subst e6
  exact KD (hO'.holds _ (List.mem_cons_self ..)) hN e3 hl
structure LineI where
 i : Nat
 v : Value
theorem E8 {ns : List Int} {v : Value} {w : World} (hv : SlV w v ns) (hi : ∀ a, a ∈ ns → I64 a) (hp : Pow w) (hl : ns.length ≤ 2199023255552) :
  Calls Tryz.prog 43 #[v] w (Ret w [] fun v L => L = [] ∧ v = str (lineB ns)) := by
 obtain ⟨A, cap, rfl, hr, hlc, hcm, hle⟩ := hv
 refine At (args := [_]) (L := []) Tryz.func43 rfl Tryz.ntmps43 rfl (Own.start _ _) ?_
 refine Zs ?_
 refine Za ?_
 refine Zx <| Zs ?_
 refine Za ?_
 refine Zx <| DC.seq <| Zs ?_
 refine Zm ?_
 refine Zn Tryz.underlying44 ?_
 refine Zm ?_
 refine Zx <| DC.block ?_
 refine DC.own (fun w hw => Bd (t := 9) (m := 1) hw) ?_
 refine DC.loop (ι := LineI) (fun j => j.i ≤ ns.length)
  (fun j => [(3, j.v), (6, .slice A ns.length cap), (7, .int .i64 ns.length), (8, .int .i64 j.i)])
  (fun j => [slc j.v 9 1 (strs ((ns.take j.i).map Lib.itoa))]) (fun j => ns.length - j.i) ⟨0, .slice none 0 0⟩ (Nat.zero_le _) ⟨rfl, rfl, rfl, rfl, trivial⟩ (.cons 0 rfl .nil) ?_
 rintro ⟨i, v3⟩ hi'
 dsimp only at hi' ⊢
 refine Zs ?_
 refine Zc ?_
 refine Zx <| DC.seq ?_
 refine Zd (fun c3 => ?_) fun c3 => ?_
 ·have hlt : i < ns.length := by simpa using c3
  obtain ⟨x, hx⟩ : ∃ x, ns[i]? = some x := ⟨_, List.getElem?_eq_getElem hlt⟩
  obtain ⟨ad, rfl, hcx⟩ := hr.int hx
  have hxi : I64 x := hi x (List.mem_of_getElem? hx)
  refine DC.skip <| Fin.then <| DC.seq <| DC.block <| Zs ?_
  refine Zi Tryz.underlying44 AL ?_
  refine Zu (Ai rfl rfl AI (Ar hcx)) ?_
  refine Za ?_
  refine Zx <| DC.region ?_
  refine Zm ?_
  refine Zm ?_
  refine Seq.rel0 rfl rfl (Ao en83 rfl rfl rfl (fun w hw => Lp hxi (hp.keep0 hw))) ?_
  rintro _ rfl
  refine Zw (AP (cs := #[_]) rfl rfl Tryz.underlying150 sz9 ze9 rfl (by decide) (by decide) rfl rfl) fun g15 => ?_
  refine Seq.gen rfl rfl (AG rfl rfl rfl Tryz.underlying150 sz9 by9 ze9 rfl (by decide) (by decide) (fun w hw => hw.pick (.cons 1 rfl .nil)) (.inl ⟨_, _, rfl, Am rfl⟩) rfl (strs_one [Lib.itoa x]) (by simp; omega)) ?_
  rintro v16 _ rfl
  refine Za ?_
  refine Seq.nil <| Fin.inBlock <| Fin.then <| DC.region ?_
  refine Zp ?_
  refine Zm ?_
  refine Seq.nil ?_
  refine Fin.again ⟨i + 1, v16⟩ (by dsimp only; omega) (by dsimp only; omega) ⟨rfl, rfl, rfl, rfl, trivial⟩ (.cons' 0 rfl (by rw [List.take_add_one, hx]; simp [strs]) .nil)
 ·refine DC.exit <| Ad <| Ad <| Ag <| Fin.then <| DC.seq ?_
  have hin : i = ns.length := by simp at c3; omega
  subst hin
  simp only [List.take_length]
  have hjl := Fy (k := 20) (ns.map Lib.itoa) (by simp; intro a ha; exact Cq (hi a ha))
  simp only [List.length_map] at hjl
  refine DC.region ?_
  refine Zm ?_
  refine Seq.rel0 rfl rfl (Ao en84 rfl rfl rfl (fun w hw => LW hw (by simp; omega) (by omega))) ?_
  rintro _ rfl
  refine Zo (Fu (a := Lib.join (ns.map Lib.itoa) [32]) (b := [10]) rfl rfl rfl (by simp; omega)) ?_
  refine Za ?_
  refine Zx <| DC.ret ?_
  refine Fin.weak (E' := [(2, _)]) ⟨rfl, trivial⟩ .nil ?_
  refine Ak (.inl rfl) rfl rfl ?_
  exact ⟨rfl, rfl⟩
/-- A builder in block b, its buffer v, that holds these bytes. -/
def bldr (b : Nat) (v : Value) (bs : List UInt8) : Chunk :=
 ⟨b :: v.ownBlock.toList, fun w => ∃ p, (p = .pointer none ∨ p = .pointer (some ⟨b, 0, none⟩)) ∧ w.heap[b]? = some (.cells #[p, v] 95 (0, 0)) ∧
   w.ownsRow b 5 1 v (Lib.byteCells bs).length (Lib.byteCells bs) ∧ v.ownBlock ≠ some b,
  fun w w' h hh => by
   obtain ⟨p, h1, h2, h3, h4⟩ := hh
   exact ⟨p, h1, (h b (List.mem_cons_self ..)).trans h2, Hk h3 fun g hg => h g (by rw [hg]; simp), h4⟩⟩
theorem JO {b : Nat} {v : Value} {bs : List UInt8} {w : World} (h : (bldr b v bs).holds w) : Lib.IsBuilder 95 5 b b (Lib.byteCells bs) w := by
 obtain ⟨p, rfl | rfl, h2, h3, h4⟩ := h
 ·exact .inl ⟨Nat.le_refl _, v, h2, h3, h4⟩
 ·exact .inr ⟨Nat.le_refl _, v, h2, h3, h4⟩
section
variable {w0 w w' : World} {K : List Nat} {n : Nat} {ds : List Deferred} {E : Env} {L F : List Chunk} {o : Oper} {x : Operand} {v : Value} {b : Nat} {bs s : List UInt8}
theorem own_bldr (hw : Own w0 K w (blk b 95 #[.pointer none, .slice none 0 0] :: F)) : Own w0 K w (bldr b (.slice none 0 0) [] :: F) :=
 GG (c' := bldr b (.slice none 0 0) []) (by rfl) (fun w hh => ⟨_, .inl rfl, hh, ⟨rfl, .inl ⟨rfl, rfl⟩⟩, by simp [Value.ownBlock]⟩) hw
/-- What a call on a builder leaves: the builder alone. -/
theorem own_after (hw : Own w0 [] w (bldr b v bs :: F)) (hb : RowKit.Below b w w') {v' : Value} (h : (bldr b v' s).holds w') : Own w0 [] w' [bldr b v' s] := by
 have hbf : w0.heap.size ≤ b := by
  rcases hw.fresh b (by simp [bldr]) with h1 | h1
  ·simp at h1
  ·exact h1
 obtain ⟨p, h1, h2, h3, h4⟩ := h
 refine ⟨hb.os.trans hw.os, hb.tape.trans hw.tape, hb.output.trans hw.output, .inl trivial, Nat.le_trans hw.size hb.size, fun k hk hn => ?_, ?_, fun g hg => .inr ?_, fun g hg => ?_, fun c hc => ?_⟩
 ·rw [hb.block k (by omega)]; exact hw.old k hk hn
 ·simp only [idsOf_cons, idsOf_nil, List.append_nil, bldr, List.nodup_cons]
  refine ⟨fun hm => h4 (by simpa [eq_comm] using hm), ?_⟩
  cases v'.ownBlock <;> simp
 ·simp only [idsOf_cons, idsOf_nil, List.append_nil, bldr, List.mem_cons] at hg
  rcases hg with rfl | hg
  ·exact hbf
  ·have := (h3.lt g (by simpa [eq_comm] using hg)).1; omega
 ·simp only [idsOf_cons, idsOf_nil, List.append_nil, bldr, List.mem_cons] at hg
  rcases hg with rfl | hg
  ·exact (Array.getElem?_eq_some_iff.1 h2).1
  ·exact (h3.lt g (by simpa [eq_comm] using hg)).2
 ·simp at hc; subst hc
  exact ⟨p, h1, h2, h3, h4⟩
theorem own_gone (hw : Own w0 [] w (bldr b v bs :: F)) (hb : RowKit.Below b w w') : Own w0 [] w' [] := by
 have hbf : w0.heap.size ≤ b := by
  rcases hw.fresh b (by simp [bldr]) with h1 | h1
  ·simp at h1
  ·exact h1
 exact ⟨hb.os.trans hw.os, hb.tape.trans hw.tape, hb.output.trans hw.output, .inl trivial, Nat.le_trans hw.size hb.size, fun k hk hn => (hb.block k (by omega)).trans (hw.old k hk hn), by simp, by simp, by simp, by simp⟩
theorem HQ (h : (bldr b v bs).holds w) : Calls Tryz.prog 44 #[.pointer (some ⟨b, 0, none⟩)] w (Ret w [] fun u L => L = [] ∧ u = .int .i64 bs.length) := by
 refine (Tryz.Builder_Len b b _ w (JO h)).mono ?_
 rintro e w' ⟨rfl, rfl⟩
 exact ⟨_, [], rfl, ⟨rfl, by rw [Lib.byteCells_length]⟩, Own.start _ _⟩
theorem g_write {ts : Array Nat} {xs : Array Operand} (ho : o.op = .call ⟨.value x, xs, ts⟩) (hx : ev n E x = some (.func (.func 42) #[] #[]))
  (hxs : evs n E xs.toList = some [.pointer (some ⟨b, 0, none⟩), str s]) (hL : ∀ w, Own w0 [] w L → Own w0 [] w (bldr b v bs :: F)) (hl : bs.length + s.length ≤ 140737488355328) :
  Gen Tryz.prog w0 [] n ds E L o (fun u M => ∃ v', M = [bldr b v' (bs ++ s)]) := by
 intro a w ha hw
 have hw1 := hL w hw
 have hh := hw1.holds _ (List.mem_cons_self ..)
 unfold RunsTo
 rw [El en42 ho ha hx hxs]
 have hlt := hw1.lt b (by simp [bldr])
 refine Calls.mono (Tryz.Builder_WriteString b b _ ⟨s.toArray⟩ w (JO hh) (by rw [Lib.byteCells_length]; simpa [ByteArray.size] using hl) (by omega)) ?_
 rintro e w' ⟨rfl, ⟨_, v', h1, h2, h3⟩, hb⟩
 have e1 : Lib.strCells ⟨s.toArray⟩ = Lib.byteCells s := rfl
 rw [e1, ← Lib.byteCells_append] at h2
 exact ⟨_, rfl, _, ⟨v', rfl⟩, own_after hw1 hb ⟨_, .inr rfl, h1, h2, h3⟩⟩
theorem g_string {ts : Array Nat} {xs : Array Operand} (ho : o.op = .call ⟨.value x, xs, ts⟩) (hx : ev n E x = some (.func (.func 45) #[] #[]))
  (hxs : evs n E xs.toList = some [.pointer (some ⟨b, 0, none⟩)]) (hL : ∀ w, Own w0 [] w L → Own w0 [] w (bldr b v bs :: F)) :
  Gen Tryz.prog w0 [] n ds E L o (fun u M => u = str bs ∧ M = []) := by
 intro a w ha hw
 have hw1 := hL w hw
 have hh := hw1.holds _ (List.mem_cons_self ..)
 unfold RunsTo
 rw [El en45 ho ha hx hxs]
 have hlt := hw1.lt b (by simp [bldr])
 refine Calls.mono (Tryz.Builder_String_any b b bs w (JO hh) (by omega)) ?_
 rintro e w' ⟨rfl, hb⟩
 exact ⟨_, rfl, _, ⟨rfl, rfl⟩, own_gone hw1 hb⟩
end
end Go.Fl

namespace Go.Fl
open Go Go.Proofs
theorem Fits.i64 {a : Int} (h : Fits a) : I64 a := by unfold Fits at h; unfold I64; omega
theorem Ky {ls : List (List Int)} {v : Value} {w : World} {i : Nat} {l : List Int} (hv : LsV w v ls) (hl : ls[i]? = some l) (hi : ∀ a, a ∈ l → I64 a) (hp : Pow w) (hf : l.length ≤ 2199023255552) :
  Calls Tryz.prog 48 #[.iface 153 v, .int .i64 i] w (Ret w [] fun v L => L = [] ∧ v = str (lineB l)) := by
 obtain ⟨A, cap, rfl, hr, hlc, hcm, hle⟩ := hv
 have hlt := (List.getElem?_eq_some_iff.1 hl).1
 obtain ⟨ad, lv, rfl, hc, hs⟩ := hr i l hl
 refine At (args := [_, _]) (L := []) Tryz.func48 rfl Tryz.ntmps48 rfl (Own.start _ _) ?_
 refine Zs ?_
 refine Za ?_
 refine Zx <| DC.seq <| Zs ?_
 refine Zm ?_
 refine Zx <| DC.block <| Zs ?_
 refine Zo (CX (v := .tuple #[.slice (some ad) ls.length cap, .bool true]) rfl rfl (fun w => by kernel_rfl)) ?_
 refine Ze ?_
 refine Ze ?_
 refine Zx ?_
 refine AM rfl ?_
 refine Zs ?_
 refine Za ?_
 refine Zx <| Zs ?_
 refine Zm ?_
 refine Zm ?_
 refine Zi Tryz.underlying153 Br ?_
 refine Zu (Ai rfl rfl Bp (Ar hc)) ?_
 refine Seq.rel0 rfl rfl (Ao en43 rfl rfl rfl (fun w hw => E8 (hs.keep0 hw) hi (hp.keep0 hw) hf)) ?_
 rintro _ rfl
 refine Za ?_
 refine Zx <| DC.ret <| Ae <| Aa ?_
 refine Ak (.inl rfl) rfl rfl ?_
 exact ⟨rfl, rfl⟩
theorem Kz {es : List Pr} {v : Value} {w : World} {i : Nat} {e : Pr} (hv : PrV w v es) (he : es[i]? = some e) (h1 : I64 e.1) (h2 : I64 e.2) (hp : Pow w) :
  Calls Tryz.prog 48 #[.iface 154 v, .int .i64 i] w (Ret w [] fun v L => L = [] ∧ v = str (lineB [e.1, e.2])) := by
 obtain ⟨A, cap, rfl, hr, hlc, hcm, hle⟩ := hv
 have hlt := (List.getElem?_eq_some_iff.1 he).1
 obtain ⟨ad, rfl, hU, hV⟩ := hr.pair he
 refine At (args := [_, _]) (L := []) Tryz.func48 rfl Tryz.ntmps48 rfl (Own.start _ _) ?_
 refine Zs ?_
 refine Za ?_
 refine Zx <| DC.seq <| Zs ?_
 refine Zm ?_
 refine Zx <| DC.block <| Zs ?_
 refine Zo (CX (v := .tuple #[.slice none 0 0, .bool false]) rfl rfl (fun w => by kernel_rfl)) ?_
 refine Ze ?_
 refine Ze ?_
 refine Zx ?_
 refine AT rfl ?_
 refine Zs ?_
 refine Zo (CX (v := .tuple #[.slice (some ad) es.length cap, .bool true]) rfl rfl (fun w => by kernel_rfl)) ?_
 refine Ze ?_
 refine Ze ?_
 refine Zx ?_
 refine AM rfl ?_
 refine Zs ?_
 refine Za ?_
 refine Zx <| DC.seq ?_
 refine AD (cl := [.q, .q, .q, .q, .v, .q, .q, .q, .q, .v, .n, .r, .q]) (A := [0, 0, 3, 7, 15, 0, 0, 96, 224, 480, 1023, 2047, 4095]) (order := [0, 1, 2, 3, 4, 5, 6, 7, 8, 9, 10, 11, 12]) [] mixed (by kernel_rfl) (fun w hw => hw.pick .nil) ?_
 refine Ym ?_
 refine Ym ?_
 refine Yo rfl (AE rfl rfl rfl Tryz.underlying154 AW (by omega) (by omega) (by first | exact AC _ _ | exact Bf _ _ _ | rfl)) ?_
 refine Yf AZ ?_
 refine Aj rfl rfl rfl rfl (Ai rfl rfl AI (Ar (by rw [add_0]; exact hU))) ?_
 refine Ym ?_
 refine Ym ?_
 refine Yo rfl (AE rfl rfl rfl Tryz.underlying154 AW (by omega) (by omega) (by first | exact AC _ _ | exact Bf _ _ _ | rfl)) ?_
 refine Yf Bi ?_
 refine Aj rfl rfl rfl rfl (Ai rfl rfl AI (Ar (by rw [BS _ _ _ (by decide)]; exact hV))) ?_
 refine Bt rfl rfl rfl rfl (AP (cs := #[_, _]) rfl rfl Tryz.underlying44 AL BT rfl (by decide) (by decide) rfl rfl) fun g29 => ?_
 refine HU (V := [blk g29 3 #[.int .i64 e.1, .int .i64 e.2]]) rfl rfl rfl rfl (by kernel_rfl) (Ao en43 rfl rfl rfl (fun w hw => E8 (ns := [e.1, e.2]) (BX (g := g29) hw rfl rfl (by decide)) (by simp; exact ⟨h1, h2⟩) (hp.keep0 hw) (by simp))) ?_
 rintro _ rfl
 refine Yo rfl (AY rfl rfl) ?_
 refine Flow.end rfl ?_
 simp only [zq, zr]
 refine Fin.then <| DC.ret <| Ae <| Aa ?_
 refine Fin.weak (E' := [(4, _)]) ⟨rfl, trivial⟩ .nil ?_
 refine Ak (.inl rfl) rfl rfl ?_
 exact ⟨rfl, rfl⟩
/-- What a form of a certificate says: its letter, the most lines, whether its text may be written, its lines. -/
structure FormC (w0 : World) (T : Nat) (v : Value) (letter : List UInt8) (lim : Int) (ok : Prop) (lines : List (List UInt8)) : Prop where
 head : ∀ w L, Own w0 [] w L → Calls Tryz.prog 47 #[.iface T v] w (Ret w [] fun r L => L = [] ∧ ∃ b, r = .tuple #[str letter, .int .i64 lim, .bool b] ∧ (b = true ↔ ok))
 meth : ∃ fm, Ent Tryz.prog fm ∧ (∀ w, (method (Tryz.prog.types.size + Made.depth) T v "tangram/cert.lines").run Tryz.prog w = .ok (fm, v) w) ∧ ∀ w, Calls Tryz.prog fm #[v] w (Ret w [] fun r L => L = [] ∧ r = .int .i64 lines.length)
 line : ok → ∀ (i : Nat) l, lines[i]? = some l → ∀ w L, Own w0 [] w L → Calls Tryz.prog 48 #[.iface T v, .int .i64 i] w (Ret w [] fun r L => L = [] ∧ r = str l)
 few : lines.length ≤ 17592186044416
 one : letter.length = 1
 small : ok → ∀ l, l ∈ lines → l.length ≤ 1099511627776
def headB (letter : List UInt8) (n : Nat) : List UInt8 := (letter ++ [32]) ++ lineB [(n : Int)]
def textB (letter : List UInt8) (lines : List (List UInt8)) : List UInt8 := headB letter lines.length ++ lines.flatten
theorem C9 {letter : List UInt8} {n : Nat} (h1 : letter.length = 1) (hn : n ≤ 17592186044416) : (headB letter n).length ≤ 100 := by
 have := C8 (ns := [(n : Int)]) (by simp; unfold I64; omega)
 simp [headB, h1] at this ⊢; omega
theorem CH {l : List (List UInt8)} {i : Nat} {x : List UInt8} (h : l[i]? = some x) : (l.take (i + 1)).flatten = (l.take i).flatten ++ x := by
 rw [List.take_add_one, h]; simp
theorem L6 (l : List (List UInt8)) (i : Nat) : (l.take i).flatten.length ≤ l.flatten.length := by
 conv => rhs; rw [← List.take_append_drop i l]
 rw [List.flatten_append, List.length_append]; omega
structure PrintI where
 i : Nat
 v : Value
theorem Hh {c v : Value} {w : World} {T : Nat} {is : Bool} {letter : List UInt8} {lim : Int} {ok : Prop} {lines : List (List UInt8)} {cs : Array Value} (hc : c = .agg cs) (hcs : ∃ x y z, cs = #[x, y, z] ∧ x.oneCell' = true ∧ y.oneCell' = true ∧ z.oneCell' = true)
  (hfo : ∀ w, Calls Tryz.prog 46 #[c] w (Ret w [] fun r L => L = [] ∧ r = .tuple #[.iface T v, .bool is])) (hF : FormC w T v letter lim ok lines) (hp : Pow w) :
  Calls Tryz.prog 24 #[c] w (Ret w [] fun r L => L = [] ∧ ∃ s e, r = .tuple #[str s, .int .i64 e] ∧
   ((e = 0 ∧ is = true ∧ ok ∧ (textB letter lines).length ≤ 33554432 ∧ s = textB letter lines) ∨ (e = 170 ∧ ¬ (is = true ∧ ok) ∧ s = []) ∨ (e = 10 ∧ is = true ∧ ok ∧ 33554432 < (textB letter lines).length ∧ s = []))) := by
 subst hc
 obtain ⟨x, y, z, rfl, x1, y1, z1⟩ := hcs
 obtain ⟨fm, hfm, hme, hln⟩ := hF.meth
 have hfew := hF.few
 have hhl := C9 hF.one hfew
 refine At (args := [_]) (L := []) Tryz.func24 rfl Tryz.ntmps24 rfl (Own.start _ _) ?_
 refine Zs ?_
 refine Zw (AR (cs := #[x, y, z]) rfl rfl (cells3 x1 y1 z1)) fun g1 => ?_
 refine Za ?_
 refine Za ?_
 refine Zx <| Zs ?_
 refine Zu (Aw (vs := [_, _, _]) rfl rfl FO EX rfl (Am rfl)) ?_
 refine Seq.rel0 rfl rfl (Ao en46 rfl rfl rfl (fun w hw => hfo w)) ?_
 rintro _ rfl
 refine Zm ?_
 refine Ze ?_
 refine Ze ?_
 refine Za ?_
 refine Za ?_
 refine Zx <| DC.seq <| Zs ?_
 refine Zm ?_
 refine Zo (Bg rfl rfl) ?_
 refine Zx ?_
 refine Zd (fun c2 => ?_) fun c2 => ?_
 ·refine Zs ?_
  refine Za ?_
  refine Za ?_
  refine Zx <| DC.ret <| Aa ?_
  refine Fin.weak (E' := [(2, _), (3, _)]) ⟨rfl, rfl, trivial⟩ .nil ?_
  refine AK (.inl rfl) rfl rfl rfl ?_
  exact ⟨rfl, [], 170, rfl, .inr (.inl ⟨rfl, by simp at c2; simp [c2], rfl⟩)⟩
 ·refine DC.skip <| Fin.then <| Zs ?_
  refine Zm ?_
  refine Seq.rel0 rfl rfl (Ao en47 rfl rfl rfl (fun w hw => hF.head w _ hw)) ?_
  rintro _ ⟨b, rfl, hb⟩
  refine Zm ?_
  refine Ze ?_
  refine Ze ?_
  refine Ze ?_
  refine Za ?_
  refine Za ?_
  refine Za ?_
  refine Zx <| DC.seq <| Zs ?_
  refine Zm ?_
  refine Zo (Bg rfl rfl) ?_
  refine Zx ?_
  refine Zd (fun c5 => ?_) fun c5 => ?_
  ·refine Zs ?_
   refine Za ?_
   refine Za ?_
   refine Zx <| DC.ret <| Aa ?_
   refine Fin.weak (E' := [(2, _), (3, _)]) ⟨rfl, rfl, trivial⟩ .nil ?_
   refine AK (.inl rfl) rfl rfl rfl ?_
   exact ⟨rfl, [], 170, rfl, .inr (.inl ⟨rfl, by simp at c5; simp [← hb, c5], rfl⟩)⟩
  ·refine DC.skip <| Fin.then <| Zs ?_
   refine Zw (AO rfl ze95 rfl) fun g9 => ?_
   refine Zx <| Zs ?_
   refine Zm ?_
   refine Zo (Fu (a := letter) (b := [32]) rfl rfl rfl (by rw [hF.one]; decide)) ?_
   refine Zm ?_
   refine Seq.rel rfl rfl (Kd hfm rfl rfl hme (fun w hw => hln w)) ?_
   rintro _ _ ⟨rfl, rfl⟩
   refine Zw (AP (cs := #[_]) rfl rfl Tryz.underlying44 AL BT rfl (by decide) (by decide) rfl rfl) fun g30 => ?_
   refine Seq.rel0 rfl rfl (Ao en43 rfl rfl rfl (fun w hw => E8 (ns := [(lines.length : Int)]) (BX (g := g30) hw rfl rfl (by decide)) (by simp; unfold I64; omega) (hp.keep0 hw) (by simp))) ?_
   rintro _ rfl
   refine Zo (Fu (a := letter ++ [32]) (b := lineB [(lines.length : Int)]) rfl rfl rfl (by have := hhl; simp [headB] at this ⊢; omega)) ?_
   refine Seq.gen rfl rfl (g_write rfl rfl rfl (fun w hw => own_bldr (hw.pick (.cons 1 rfl .nil))) (by have := hhl; simp [headB] at this ⊢; omega)) ?_
   rintro _ _ ⟨v9, rfl⟩
   refine Zx <| DC.seq <| Zs ?_
   refine Zm ?_
   refine Seq.rel rfl rfl (Kd hfm rfl rfl hme (fun w hw => hln w)) ?_
   rintro _ _ ⟨rfl, rfl⟩
   refine Zm ?_
   refine Zx <| DC.block ?_
   have hc2 : is = true := by simpa using c2
   have hc5 : ok := hb.1 (by simpa using c5)
   refine DC.loop (ι := PrintI) (fun j => j.i ≤ lines.length ∧ (headB letter lines.length ++ (lines.take j.i).flatten).length ≤ 33554432)
    (fun j => [(4, .iface T v), (9, .pointer (some ⟨g9, 0, none⟩)), (35, .int .i64 lines.length), (36, .int .i64 j.i)])
    (fun j => [bldr g9 j.v (headB letter lines.length ++ (lines.take j.i).flatten)]) (fun j => lines.length - j.i) ⟨0, v9⟩ ⟨Nat.zero_le _, by simp; omega⟩ ⟨rfl, rfl, rfl, rfl, trivial⟩ (.cons' 0 rfl (by simp [headB]) .nil) ?_
   rintro ⟨i, vi⟩ ⟨hi, hle⟩
   dsimp only at hi hle ⊢
   refine Zs ?_
   refine Zc ?_
   refine Zx <| DC.seq ?_
   refine Zd (fun c10 => ?_) fun c10 => ?_
   ·have hlt : i < lines.length := by simpa using c10
    obtain ⟨l, hl⟩ : ∃ l, lines[i]? = some l := ⟨_, List.getElem?_eq_getElem hlt⟩
    have hsm := hF.small hc5 l (List.mem_of_getElem? hl)
    refine DC.skip <| Fin.then <| DC.seq <| DC.block <| Zs ?_
    refine Zm ?_
    refine Za ?_
    refine Zx <| Zs ?_
    refine Zm ?_
    refine Zm ?_
    refine Seq.rel0 rfl rfl (Ao en48 rfl rfl rfl (fun w hw => hF.line hc5 i l hl w _ hw)) ?_
    rintro _ rfl
    refine Seq.gen rfl rfl (g_write rfl rfl rfl (fun w hw => hw) (by omega)) ?_
    rintro _ _ ⟨v42, rfl⟩
    refine Zx <| Zs ?_
    refine Seq.rel0 rfl rfl (Ao en44 rfl rfl rfl (fun w hw => HQ (hw.holds _ (List.mem_cons_self ..)))) ?_
    rintro _ rfl
    refine Zo (BC rfl rfl rfl) ?_
    refine Zx ?_
    refine Zd (fun c13 => ?_) fun c13 => ?_
    ·refine Zs ?_
     refine Za ?_
     refine Za ?_
     refine Zx <| DC.ret <| Ae <| Aa <| Aa <| Ae <| Aa ?_
     refine Fin.weak (E' := [(2, _), (3, _)]) ⟨rfl, rfl, trivial⟩ .nil ?_
     refine AK (.inl rfl) rfl rfl rfl ?_
     refine ⟨rfl, [], 10, rfl, .inr (.inr ⟨rfl, hc2, hc5, ?_, rfl⟩)⟩
     have := L6 lines (i + 1)
     rw [CH hl] at this
     simp at c13
     simp [textB] at c13 this ⊢; omega
    ·refine DC.skip <| Fin.inBlock <| Fin.then <| DC.region ?_
     refine Zp ?_
     refine Zm ?_
     refine Seq.nil ?_
     refine Fin.again ⟨i + 1, v42⟩ (by dsimp only; omega) ⟨by dsimp only; omega, ?_⟩ ⟨rfl, rfl, rfl, rfl, trivial⟩ (.cons' 0 rfl (by dsimp only; rw [CH hl, List.append_assoc]) .nil)
     dsimp only
     rw [CH hl, ← List.append_assoc]
     simp only [decide_eq_false_iff_not] at c13
     omega
   ·refine DC.exit <| Ad <| Ad <| Ag <| Fin.then <| DC.seq <| DC.seq ?_
    have hin : i = lines.length := by simp at c10; omega
    subst hin
    rw [List.take_length] at hle ⊢
    refine DC.region ?_
    refine Seq.rel0 rfl rfl (Ao en44 rfl rfl rfl (fun w hw => HQ (hw.holds _ (List.mem_cons_self ..)))) ?_
    rintro _ rfl
    refine Zo (BC rfl rfl rfl) ?_
    refine Zx ?_
    refine Zd (fun c16 => ?_) fun c16 => ?_
    ·refine Zs ?_
     refine Za ?_
     refine Za ?_
     refine Zx <| DC.ret <| Aa ?_
     refine Fin.weak (E' := [(2, _), (3, _)]) ⟨rfl, rfl, trivial⟩ .nil ?_
     refine AK (.inl rfl) rfl rfl rfl ?_
     exact ⟨rfl, [], 10, rfl, .inr (.inr ⟨rfl, hc2, hc5, by simp only [decide_eq_true_eq] at c16; unfold textB; omega, rfl⟩)⟩
    ·refine DC.skip <| Fin.then <| Zs ?_
     refine Seq.gen rfl rfl (g_string rfl rfl rfl (fun w hw => hw)) ?_
     rintro _ _ ⟨rfl, rfl⟩
     refine Za ?_
     refine Za ?_
     refine Zx <| DC.ret ?_
     refine Fin.weak (E' := [(2, _), (3, _)]) ⟨rfl, rfl, trivial⟩ .nil ?_
     refine AK (.inl rfl) rfl rfl rfl ?_
     exact ⟨rfl, _, 0, rfl, .inl ⟨rfl, hc2, hc5, hle, rfl⟩⟩
/-! ### the certificate's text -/
def HasForm (pl : Bool) (ls : List (List Int)) (es : List Pr) : Prop := if pl then es = [] ∧ ListsOk ls else ls = [] ∧ EdgesOk es
def certB (pl : Bool) (ls : List (List Int)) (es : List Pr) : List UInt8 := if pl then textB [112] (ls.map lineB) else textB [110] (es.map fun e => lineB [e.1, e.2])
theorem ListsOk.fits {ls : List (List Int)} (h : ListsOk ls) {l : List Int} (hl : l ∈ ls) {a : Int} (ha : a ∈ l) : Fits a := by
 obtain ⟨i, hi⟩ := List.mem_iff_getElem?.1 hl
 obtain ⟨j, hj⟩ := List.mem_iff_getElem?.1 ha
 obtain ⟨b, hb⟩ : ∃ b, l[0]? = some b := ⟨_, List.getElem?_eq_getElem (by have := (List.getElem?_eq_some_iff.1 hj).1; omega)⟩
 exact (h.2 i l hi j a b hj hb).1
theorem formL {ls : List (List Int)} {v : Value} {w : World} (hv : LsV w v ls) (hp : Pow w) (hs : ∀ l, l ∈ ls → l.length ≤ 2097152) : FormC w 153 v [112] 1048576 (ListsOk ls) (ls.map lineB) := by
 refine ⟨fun w' L hw => KI ls v w' (hv.keep0 hw), ?_, ?_, ?_, rfl, ?_⟩
 ·obtain ⟨A, cap, rfl, _, _, _, hle⟩ := hv
  refine ⟨220, en220, fun w => by kernel_rfl, fun w => ?_⟩
  rw [List.length_map]
  exact Jm A _ cap w
 ·intro hok i l hl w' L hw
  simp only [List.getElem?_map, Option.map_eq_some_iff] at hl
  obtain ⟨l', hl', rfl⟩ := hl
  have hm := List.mem_of_getElem? hl'
  exact Ky (hv.keep0 hw) hl' (fun a ha => (hok.fits hm ha).i64) (hp.keep0 hw) (by have := hs l' hm; omega)
 ·obtain ⟨A, cap, rfl, _, _, _, hle⟩ := hv
  simpa using hle
 ·intro hok l hl
  simp only [List.mem_map] at hl
  obtain ⟨l', hm, rfl⟩ := hl
  have := C8 (ns := l') (fun a ha => (hok.fits hm ha).i64)
  have := hs l' hm
  omega
theorem formE {es : List Pr} {v : Value} {w : World} (hv : PrV w v es) (hp : Pow w) : FormC w 154 v [110] 4194304 (EdgesOk es) (es.map fun e => lineB [e.1, e.2]) := by
 have i64 : ∀ {e : Pr}, EdgesOk es → e ∈ es → I64 e.1 ∧ I64 e.2 := fun hok hm => by
  obtain ⟨i, hi⟩ := List.mem_iff_getElem?.1 hm
  have := hok.ok i _ hi
  exact ⟨this.1.i64, this.2.1.i64⟩
 refine ⟨fun w' L hw => KJ es v w' (hv.keep0 hw), ?_, ?_, ?_, rfl, ?_⟩
 ·obtain ⟨A, cap, rfl, _, _, _, hle⟩ := hv
  refine ⟨221, en221, fun w => by kernel_rfl, fun w => ?_⟩
  rw [List.length_map]
  exact JG A _ cap w
 ·intro hok i l hl w' L hw
  simp only [List.getElem?_map, Option.map_eq_some_iff] at hl
  obtain ⟨e, he, rfl⟩ := hl
  have hm := i64 hok (List.mem_of_getElem? he)
  exact Kz (hv.keep0 hw) he hm.1 hm.2 (hp.keep0 hw)
 ·obtain ⟨A, cap, rfl, _, _, _, hle⟩ := hv
  simp; omega
 ·intro hok l hl
  simp only [List.mem_map] at hl
  obtain ⟨e, hm, rfl⟩ := hl
  have h2 := i64 hok hm
  have := C8 (ns := [e.1, e.2]) (by simp; exact h2)
  simp at this; omega
/-- cert.Print. -/
theorem Ld {pl : Bool} {ls : List (List Int)} {es : List Pr} {v u : Value} {w : World} (hv : LsV w v ls) (hu : PrV w u es) (hp : Pow w) (hs : ∀ l, l ∈ ls → l.length ≤ 2097152) :
  Calls Tryz.prog 24 #[.agg #[.bool pl, v, u]] w (Ret w [] fun r L => L = [] ∧ ∃ s e, r = .tuple #[str s, .int .i64 e] ∧
   ((e = 0 ∧ HasForm pl ls es ∧ (certB pl ls es).length ≤ 33554432 ∧ s = certB pl ls es) ∨ (e = 170 ∧ ¬ HasForm pl ls es ∧ s = []) ∨ (e = 10 ∧ HasForm pl ls es ∧ 33554432 < (certB pl ls es).length ∧ s = []))) := by
 obtain ⟨A, cap, ev, _⟩ := id hv
 obtain ⟨B, cap', eu, _⟩ := id hu
 have hfo := fun w => Jt pl A B ls.length es.length cap cap' w
 rw [← ev, ← eu] at hfo
 have hcs : ∃ x y z, #[Value.bool pl, v, u] = #[x, y, z] ∧ x.oneCell' = true ∧ y.oneCell' = true ∧ z.oneCell' = true := ⟨_, _, _, rfl, rfl, by rw [ev]; rfl, by rw [eu]; rfl⟩
 unfold HasForm certB
 cases pl with
 | true =>
  simp only [if_true] at hfo ⊢
  have := Hh rfl hcs hfo (formL hv hp hs) hp
  simpa [List.length_eq_zero_iff, and_assoc] using this
 | false =>
  simp only [Bool.false_eq_true, if_false] at hfo ⊢
  have := Hh rfl hcs hfo (formE hu hp) hp
  simpa [List.length_eq_zero_iff, and_assoc] using this
end Go.Fl

namespace Go.Fl
open Go
def updN (p : Nat → Nat) (a x : Nat) : Nat → Nat := fun i => if i = a then x else p i
def Down (p : Nat → Nat) : Prop := ∀ x, p x ≤ x
def rt (p : Nat → Nat) (a : Nat) : Nat := if p a < a then rt p (p a) else a
termination_by a
theorem Ka (p : Nat → Nat) : ∀ a, rt p a ≤ a := by
 intro a
 induction a using Nat.strongRecOn with
 | _ a ih =>
  rw [rt]
  split
  ·rename_i h; exact Nat.le_trans (ih _ h) (Nat.le_of_lt h)
  ·exact Nat.le_refl _
theorem LA {p : Nat → Nat} (hp : Down p) : ∀ a, p (rt p a) = rt p a := by
 intro a
 induction a using Nat.strongRecOn with
 | _ a ih =>
  rw [rt]
  split
  ·rename_i h; exact ih _ h
  ·have := hp a; omega
theorem Fm {p : Nat → Nat} {a : Nat} (h : p a = a) : rt p a = a := by rw [rt, if_neg (by omega)]
theorem rt_idem {p : Nat → Nat} (hp : Down p) (a : Nat) : rt p (rt p a) = rt p a := Fm (LA hp a)
theorem Fk {p : Nat → Nat} (hp : Down p) (a : Nat) : rt p (p a) = rt p a := by
 rw [rt.eq_1 p a]
 split
 ·rfl
 ·have := hp a
  have : p a = a := by omega
  rw [this]; exact Fm this
theorem KV {p : Nat → Nat} (hp : Down p) {a x : Nat} (h : x ≤ a) : Down (updN p a x) := by
 intro i; unfold updN; split
 ·omega
 ·exact hp i
theorem rt_half {p : Nat → Nat} (hp : Down p) (a : Nat) : ∀ x, rt (updN p a (p (p a))) x = rt p x := by
 intro x
 induction x using Nat.strongRecOn with
 | _ x ih =>
  rw [rt.eq_1 (updN p a (p (p a))) x]
  by_cases hx : x = a
  ·subst hx
   have e : updN p x (p (p x)) x = p (p x) := by simp [updN]
   rw [e]
   split
   ·rename_i h
    rw [ih _ h, Fk hp, Fk hp]
   ·rename_i h
    have h1 := hp (p x)
    have h2 := hp x
    have : p x = x := by omega
    rw [Fm this]
  ·have e : updN p a (p (p a)) x = p x := by simp [updN, hx]
   rw [e]
   split
   ·rename_i h; rw [ih _ h, Fk hp]
   ·rename_i h
    have := hp x
    rw [Fm (by omega)]
theorem rt_join {p : Nat → Nat} (hp : Down p) {x y : Nat} (hx : p x = x) (hy : p y = y) (h : x < y) : ∀ z, rt (updN p y x) z = if rt p z = y then x else rt p z := by
 intro z
 induction z using Nat.strongRecOn with
 | _ z ih =>
  rw [rt.eq_1 (updN p y x) z]
  by_cases hz : z = y
  ·subst hz
   have e : updN p z x z = x := by simp [updN]
   rw [e, if_pos h, ih x h, Fm hx, Fm hy, if_pos rfl, if_neg (by omega)]
  ·have e : updN p y x z = p z := by simp [updN, hz]
   rw [e]
   split
   ·rename_i h1; rw [ih _ h1, Fk hp]
   ·rename_i h1
    have := hp z
    have e2 : rt p z = z := Fm (by omega)
    rw [e2, if_neg hz]
/-- Joined by edges. -/
inductive Conn (es : List Pr) : Nat → Nat → Prop
 | refl (a : Nat) : Conn es a a
 | edge (u v : Nat) (h : ((u : Int), (v : Int)) ∈ es) : Conn es u v
 | symm {a b : Nat} (h : Conn es a b) : Conn es b a
 | trans {a b c : Nat} (h : Conn es a b) (k : Conn es b c) : Conn es a c
theorem Conn.mono {es fs : List Pr} (h : ∀ e, e ∈ es → e ∈ fs) {a b : Nat} (c : Conn es a b) : Conn fs a b := by
 induction c with
 | refl a => exact .refl a
 | edge u v h' => exact .edge u v (h _ h')
 | symm _ ih => exact .symm ih
 | trans _ _ ih1 ih2 => exact .trans ih1 ih2
/-- A function parts the numbers as the edges do. -/
def Parts (es : List Pr) (r : Nat → Nat) : Prop := ∀ a b, r a = r b ↔ Conn es a b
theorem parts_nil : Parts [] (fun a => a) := by
 intro a b
 constructor
 ·rintro rfl; exact .refl _
 ·intro h
  induction h with
  | refl a => rfl
  | edge u v h => simp at h
  | symm _ ih => exact ih.symm
  | trans _ _ ih1 ih2 => exact ih1.trans ih2
theorem Gm {es : List Pr} {r s : Nat → Nat} (h : ∀ x, r x = s x) (hr : Parts es r) : Parts es s := by
 intro a b; rw [← h, ← h]; exact hr a b
theorem LI {es : List Pr} {r : Nat → Nat} (hr : Parts es r) {u v : Nat} (h : r u = r v) : Parts (es ++ [((u : Int), (v : Int))]) r := by
 intro a b
 constructor
 ·intro hab; exact ((hr a b).1 hab).mono (by simp +contextual)
 ·intro c
  induction c with
  | refl a => rfl
  | edge x y hxy =>
   rw [List.mem_append] at hxy
   rcases hxy with hxy | hxy
   ·exact (hr x y).2 (.edge x y hxy)
   ·simp at hxy
    obtain ⟨h1, h2⟩ := hxy
    have h1 : x = u := by omega
    have h2 : y = v := by omega
    subst h1 h2; exact h
  | symm _ ih => exact ih.symm
  | trans _ _ ih1 ih2 => exact ih1.trans ih2
theorem LJ {es : List Pr} {r s : Nat → Nat} (hr : Parts es r) {u v lo hi : Nat} (hs : ∀ z, s z = if r z = hi then lo else r z) (huv : (r u = lo ∧ r v = hi) ∨ (r u = hi ∧ r v = lo)) :
  Parts (es ++ [((u : Int), (v : Int))]) s := by
 have hmono : ∀ {a b}, Conn es a b → Conn (es ++ [((u : Int), (v : Int))]) a b := fun c => c.mono (by simp +contextual)
 have hnew : Conn (es ++ [((u : Int), (v : Int))]) u v := .edge u v (by simp)
 -- a number of the one set, and one of the other
 have cross : ∀ {a b}, r a = hi → r b = lo → Conn (es ++ [((u : Int), (v : Int))]) a b := by
  intro a b ha hb
  rcases huv with ⟨h1, h2⟩ | ⟨h1, h2⟩
  ·exact (hmono ((hr a v).1 (ha.trans h2.symm))).trans (hnew.symm.trans (hmono ((hr u b).1 (h1.trans hb.symm))))
  ·exact (hmono ((hr a u).1 (ha.trans h1.symm))).trans (hnew.trans (hmono ((hr v b).1 (h2.trans hb.symm))))
 intro a b
 constructor
 ·intro hab
  rw [hs, hs] at hab
  split at hab
  ·rename_i ha
   split at hab
   ·rename_i hb; exact hmono ((hr a b).1 (ha.trans hb.symm))
   ·exact cross ha hab.symm
  ·split at hab
   ·rename_i hb; exact (cross hb hab).symm
   ·exact hmono ((hr a b).1 hab)
 ·intro c
  induction c with
  | refl a => rfl
  | edge x y hxy =>
   rw [List.mem_append] at hxy
   rcases hxy with hxy | hxy
   ·rw [hs, hs, (hr x y).2 (.edge x y hxy)]
   ·simp at hxy
    obtain ⟨h1, h2⟩ := hxy
    have h1 : x = u := by omega
    have h2 : y = v := by omega
    subst h1 h2
    rw [hs, hs]
    rcases huv with ⟨h1, h2⟩ | ⟨h1, h2⟩ <;> rw [h1, h2] <;> simp
  | symm _ ih => exact ih.symm
  | trans _ _ ih1 ih2 => exact ih1.trans ih2
def nat (p : Nat → Nat) : Nat → Int := fun i => (p i : Int)
theorem GJ (p : Nat → Nat) (a x : Nat) : upd (nat p) a (x : Int) = nat (updN p a x) := by
 funext i; unfold upd nat updN; split <;> rfl
end Go.Fl

namespace Go.Fl
open Go Go.Proofs
structure UfI where
 a : Nat
 p : Nat → Nat
theorem E1 {g n a : Nat} {p : Nat → Nat} {w : World} (hO : Own w [g] w [blk g 3 (ints (tab n (nat p))).toArray]) (hp : Down p) (ha : a < n) (hn : n ≤ 1048576) :
  Calls Tryz.prog 191 #[.slice (some ⟨g, 0, none⟩) n n, .int .i64 a] w
   (Ret w [g] fun v M => v = .int .i64 (rt p a) ∧ ∃ q, Down q ∧ (∀ x, rt q x = rt p x) ∧ M = [blk g 3 (ints (tab n (nat q))).toArray]) := by
 refine At (args := [_, _]) Tryz.func191 rfl Tryz.ntmps191 rfl hO ?_
 refine Zs ?_
 refine Za ?_
 refine Zx <| DC.seq <| DC.block ?_
 refine DC.loop (ι := UfI) (fun j => j.a < n ∧ Down j.p ∧ (∀ x, rt j.p x = rt p x) ∧ rt p j.a = rt p a)
  (fun j => [(0, .slice (some ⟨g, 0, none⟩) n n), (1, .int .i64 j.a)]) (fun j => [blk g 3 (ints (tab n (nat j.p))).toArray]) (fun j => j.a) ⟨a, p⟩ ⟨ha, hp, fun _ => rfl, rfl⟩ ⟨rfl, rfl, trivial⟩ (.cons 0 rfl .nil) ?_
 rintro ⟨b, q⟩ ⟨hb, hq, hqr, hba⟩
 dsimp only at hb hq hqr hba ⊢
 have hqb := hq b
 refine DC.seq <| Zs ?_
 refine Zm ?_
 refine Zm ?_
 refine Zi Tryz.underlying261 AL ?_
 refine Zu (Ai rfl rfl AI (Be (Bs hb))) ?_
 refine Zm ?_
 refine Zo (BB rfl rfl rfl) ?_
 refine Zx ?_
 refine Zd (fun c1 => ?_) fun c1 => ?_
 ·have hne : q b ≠ b := fun e => by simp [nat, e] at c1
  have hqq := hq (q b)
  refine DC.skip <| Fin.then <| DC.block <| Zs ?_
  refine Zm ?_
  refine Zm ?_
  refine Zm ?_
  refine Zm ?_
  refine Zm ?_
  refine Zi Tryz.underlying261 AL ?_
  refine Zu (Ai rfl rfl AI (Be (Bs hb))) ?_
  refine Zo (Ah (ad' := ⟨g, q b, none⟩) rfl rfl rfl Tryz.underlying261 AL (by simp [nat]) (by simp [nat]; omega) (by rw [AC]; rfl)) ?_
  refine Zu (Ai rfl rfl AI (Be (Bs (i := q b) (by omega)))) ?_
  refine Zi Tryz.underlying261 AL ?_
  refine Zy (AF rfl rfl rfl AL rfl (by simp; omega) BQ) ?_
  refine Seq.nil ?_
  refine Fin.weak (E' := [(0, .slice (some ⟨g, 0, none⟩) n n), (1, .int .i64 b)]) (L' := [blk g 3 (ints (tab n (nat (updN q b (q (q b)))))).toArray]) ⟨rfl, rfl, trivial⟩ (.cons' 0 rfl (by rw [← GJ]; rfl) .nil) ?_
  have hq2 := KV hq (a := b) (x := q (q b)) (by omega)
  have hr2 := rt_half hq b
  have hb2 : updN q b (q (q b)) b = q (q b) := by simp [updN]
  generalize updN q b (q (q b)) = q' at hq2 hr2 hb2 ⊢
  refine Fin.then <| DC.region ?_
  refine Zm ?_
  refine Zm ?_
  refine Zi Tryz.underlying261 AL ?_
  refine Zu (Ai rfl rfl AI (Be (Bs hb))) ?_
  refine Za ?_
  refine Seq.nil <| Fin.inBlock ?_
  refine Fin.again ⟨q' b, q'⟩ (by dsimp only; omega) ⟨by dsimp only; omega, hq2, fun x => (hr2 x).trans (hqr x), ?_⟩ ⟨rfl, rfl, trivial⟩ (.cons 0 rfl .nil)
  dsimp only
  rw [← hqr, ← hr2, Fk hq2, hr2, hqr, hba]
 ·refine DC.exit <| Ad <| Ad <| Ag <| Fin.then <| Zs ?_
  refine Zm ?_
  refine Za ?_
  refine Zx <| DC.ret ?_
  refine Ak (.inl rfl) rfl rfl ?_
  refine ⟨?_, q, hq, hqr, rfl⟩
  have h9 := Decidable.not_not.1 (of_decide_eq_false c1)
  have : q b = b := Int.ofNat.inj h9
  rw [← hba, ← hqr, Fm this]
theorem KC {A : Option Addr} {n cap : Nat} {a : Int} {w : World} : Calls Tryz.prog 200 #[.slice A n cap, .int .i64 a] w (Ret w [] fun v L => L = [] ∧ v = .bool (decide (0 ≤ a ∧ a < n))) := by
 refine At (args := [_, _]) (L := []) Tryz.func200 rfl Tryz.ntmps200 rfl (Own.start _ _) ?_
 refine Zs ?_
 refine Za ?_
 refine Zx <| Zs ?_
 refine Zm ?_
 refine Zo (Cj rfl rfl rfl) ?_
 refine Zm ?_
 refine Seq.split 7 rfl (fun k1_2 => ?_) (fun k1_2 => ?_)
 ·refine Zm ?_
  refine Zm ?_
  refine Zn Tryz.underlying261 ?_
  refine Zc ?_
  refine Zt ?_
  refine Za ?_
  refine Zx <| DC.ret ?_
  refine Ak (.inl rfl) rfl rfl ?_
  refine ⟨rfl, ?_⟩
  simp_all
  try omega
 ·refine Zk ?_
  refine Zk ?_
  refine Zk ?_
  refine Zk ?_
  refine Zg ?_
  refine Za ?_
  refine Zx <| DC.ret ?_
  refine Ak (.inl rfl) rfl rfl ?_
  refine ⟨rfl, ?_⟩
  simp_all
  try omega
/-- The sets: a struct in block gp, parents in g1, sizes in g2. -/
def setsL (gp g1 g2 n : Nat) (p : Nat → Nat) (sz : List Int) (c : Int) : List Chunk :=
 [blk gp 263 #[.slice (some ⟨g1, 0, none⟩) n n, .slice (some ⟨g2, 0, none⟩) n n, .int .i64 c], blk g1 3 (ints (tab n (nat p))).toArray, blk g2 3 (ints sz).toArray]
theorem II {gp g1 g2 n : Nat} {p : Nat → Nat} {sz : List Int} {c a : Int} {w0 w : World} {K : List Nat} (hO : Own w0 K w (setsL gp g1 g2 n p sz c)) :
  Calls Tryz.prog 190 #[.pointer (some ⟨gp, 0, none⟩), .int .i64 a] w (Ret w [] fun v L => L = [] ∧ v = .bool (decide (0 ≤ a ∧ a < n))) := by
 have hb := hO.holds _ (List.mem_cons_self ..)
 refine At (args := [_, _]) (L := []) Tryz.func190 rfl Tryz.ntmps190 rfl (Own.start _ _) ?_
 refine Zs ?_
 refine Za ?_
 refine Zx <| Zs ?_
 refine Zm ?_
 refine Zo (p_neq_nil rfl rfl rfl Tryz.underlying248) ?_
 refine Zm ?_
 refine Seq.split 7 rfl (fun k1_2 => ?_) (fun k1_2 => ?_)
 ·refine Zm ?_
  refine Zo (AU rfl rfl) ?_
  refine Zf DW ?_
  refine Zu (Ai rfl rfl HS (Bc hb rfl)) ?_
  refine Zm ?_
  refine Seq.rel0 rfl rfl (Ao en200 rfl rfl rfl (fun w hw => KC)) ?_
  rintro _ rfl
  refine Zt ?_
  refine Za ?_
  refine Zx <| DC.ret ?_
  refine Ak (.inl rfl) rfl rfl ?_
  exact ⟨rfl, rfl⟩
 ·simp at k1_2 --closed
theorem Join_calls {gp g1 g2 n u v : Nat} {p : Nat → Nat} {sz : List Int} {c : Int} {es : List Pr} {w : World} (hO : Own w (idsOf (setsL gp g1 g2 n p sz c)) w (setsL gp g1 g2 n p sz c)) (hp : Down p) (hu : u < n) (hv : v < n) (hn : n ≤ 1048576) (hs : sz.length = n)
  (hP : Parts es (rt p)) :
  Calls Tryz.prog 176 #[.pointer (some ⟨gp, 0, none⟩), .int .i64 u, .int .i64 v] w (Ret w (idsOf (setsL gp g1 g2 n p sz c)) fun r M =>
   ∃ q sz' c', Down q ∧ sz'.length = n ∧ Parts (es ++ [((u : Int), (v : Int))]) (rt q) ∧ M = setsL gp g1 g2 n q sz' c') := by
 refine At (args := [_, _, _]) Tryz.func176 rfl Tryz.ntmps176 rfl hO ?_
 unfold setsL
 refine Zs ?_
 refine Za ?_
 refine Zx <| DC.seq <| Zs ?_
 refine Zm ?_
 refine Zm ?_
 refine Seq.rel0 rfl rfl (Ao en190 rfl rfl rfl (fun w hw => II hw)) ?_
 rintro _ rfl
 refine Zo (Bg rfl rfl) ?_
 refine Zm ?_
 refine Seq.split 13 rfl (fun k1_4 => ?_) (fun k1_4 => ?_)
 ·refine Zk ?_
  refine Zk ?_
  refine Zk ?_
  refine Zk ?_
  refine Zt ?_
  refine Zx ?_
  refine AM rfl ?_
  refine Zs ?_
  refine Za ?_
  refine Zx <| DC.ret <| Aa ?_
  refine Ak (.inl rfl) rfl rfl ?_
  simp at k1_4; omega
 ·refine Zm ?_
  refine Zm ?_
  refine Seq.rel0 rfl rfl (Ao en190 rfl rfl rfl (fun w hw => II hw)) ?_
  rintro _ rfl
  refine Zo (Bg rfl rfl) ?_
  refine Zg ?_
  refine Zx ?_
  refine Zd (fun c1 => ?_) fun c1 => ?_
  ·refine Zs ?_
   refine Za ?_
   refine Zx <| DC.ret <| Aa ?_
   refine Ak (.inl rfl) rfl rfl ?_
   simp at c1; omega
  ·refine DC.skip <| Fin.then <| DC.seq ?_
   refine AD (cl := [.q, .q, .q, .q, .q, .g, .q, .q, .q, .q, .q, .g, .q, .q]) (A := [0, 1, 3, 7, 0, 31, 0, 64, 192, 448, 0, 2047, 4095, 8191]) (order := [0, 1, 2, 3, 4, 5, 6, 7, 8, 9, 10, 11, 12, 13]) ([blk gp 263 #[.slice (some ⟨g1, 0, none⟩) n n, .slice (some ⟨g2, 0, none⟩) n n, .int .i64 c]]) mixed (by kernel_rfl) (fun w hw => hw.pick (.cons 0 rfl .nil)) ?_
   refine Ym ?_
   refine Yo rfl (AU rfl rfl) ?_
   refine Yf DW ?_
   refine Flow.old rfl rfl rfl (Ai rfl rfl HS (BM rfl)) ?_
   refine Ym ?_
   refine Flow.gen0 rfl rfl rfl rfl (BK en191 rfl rfl rfl (Lc := [blk g1 3 (ints (tab n (nat p))).toArray]) (F := [blk gp 263 #[.slice (some ⟨g1, 0, none⟩) n n, .slice (some ⟨g2, 0, none⟩) n n, .int .i64 c], blk g2 3 (ints sz).toArray]) (.swap _ _ _) (fun k hk => by simpa [blk] using hk)
    (fun w hw => E1 (hw.pick (.cons 1 rfl .nil)).self hp hu hn)) (fun v L' hC w hw => by obtain ⟨_, ⟨_, q, _, _, rfl⟩, rfl⟩ := hC; exact hw.pick (.cons 1 rfl .nil)) ?_
   rintro _ _ ⟨_, ⟨rfl, q, hq, hqr, rfl⟩, rfl⟩
   simp only [List.cons_append, List.nil_append]
   refine Ym ?_
   refine Yo rfl (AU rfl rfl) ?_
   refine Yf DW ?_
   refine Flow.old rfl rfl rfl (Ai rfl rfl HS (BM rfl)) ?_
   refine Ym ?_
   refine Flow.gen0 rfl rfl rfl rfl (BK en191 rfl rfl rfl (Lc := [blk g1 3 (ints (tab n (nat q))).toArray]) (F := [blk gp 263 #[.slice (some ⟨g1, 0, none⟩) n n, .slice (some ⟨g2, 0, none⟩) n n, .int .i64 c], blk g2 3 (ints sz).toArray]) (.refl _) (fun k hk => by simpa [blk] using hk)
    (fun w hw => E1 (hw.pick (.cons 0 rfl .nil)).self hq hv hn)) (fun v L' hC w hw => by obtain ⟨_, ⟨_, q, _, _, rfl⟩, rfl⟩ := hC; exact hw.pick (.cons 1 rfl .nil)) ?_
   rintro _ _ ⟨_, ⟨rfl, q2, hq2, hqr2, rfl⟩, rfl⟩
   simp only [List.cons_append, List.nil_append]
   refine Yo rfl (AY rfl rfl) ?_
   refine Yo rfl (AY rfl rfl) ?_
   refine Flow.end rfl ?_
   simp only [zq, zr]
   have hux := Ka p u
   have hvx := Ka q v
   have h2u : rt q2 u = rt p u := by rw [hqr2, hqr]
   have h2v : rt q2 v = rt q v := hqr2 v
   have hxx : q2 (rt p u) = rt p u := by rw [← h2u]; exact LA hq2 u
   have hyy : q2 (rt q v) = rt q v := by rw [← h2v]; exact LA hq2 v
   have hP2 : Parts es (rt q2) := Gm (fun z => by rw [hqr2, hqr]) hP
   generalize rt p u = x at hux h2u hxx ⊢
   generalize rt q v = y at hvx h2v hyy ⊢
   refine Fin.then <| DC.seq <| Zs ?_
   refine Zm ?_
   refine Zm ?_
   refine Zo (AN rfl rfl rfl) ?_
   refine Zx ?_
   refine Zd (fun c4 => ?_) fun c4 => ?_
   ·refine Zs ?_
    refine Za ?_
    refine Zx <| DC.ret <| Aa ?_
    refine Fin.weak (E' := [(6, _)]) ⟨rfl, trivial⟩ (.cons 1 rfl (.cons 0 rfl (.cons 0 rfl .nil))) ?_
    refine Ak (.inl rfl) rfl rfl ?_
    have hxy : x = y := by simp at c4; omega
    exact ⟨q2, sz, c, hq2, hs, LI hP2 (by rw [h2u, h2v, hxy]), rfl⟩
   ·refine DC.skip <| Fin.then <| Zs ?_
    refine Zm ?_
    refine Zm ?_
    refine Zo (p_min rfl rfl rfl) ?_
    refine Zm ?_
    refine Zm ?_
    refine Zo (p_max rfl rfl rfl) ?_
    refine Za ?_
    refine Za ?_
    refine Zx <| DC.seq ?_
    have hxy : x ≠ y := by simp at c4; omega
    obtain ⟨lo, hlo⟩ : ∃ lo, lo = min x y := ⟨_, rfl⟩
    obtain ⟨hi, hhi⟩ : ∃ hi, hi = max x y := ⟨_, rfl⟩
    have e7 : min (x : Int) (y : Int) = (lo : Int) := by omega
    have e8 : max (x : Int) (y : Int) = (hi : Int) := by omega
    rw [e7, e8]
    have hlt : lo < hi := by omega
    have hhn : hi < n := by omega
    have hlx : q2 lo = lo := by rcases (show lo = x ∨ lo = y by omega) with h | h <;> rw [h] <;> assumption
    have hhx : q2 hi = hi := by rcases (show hi = x ∨ hi = y by omega) with h | h <;> rw [h] <;> assumption
    have hj := rt_join hq2 hlx hhx hlt
    have hsel : (rt q2 u = lo ∧ rt q2 v = hi) ∨ (rt q2 u = hi ∧ rt q2 v = lo) := by rw [h2u, h2v]; omega
    obtain ⟨s1, hs1⟩ : ∃ s, sz[lo]? = some s := ⟨_, List.getElem?_eq_getElem (by omega)⟩
    obtain ⟨s2, hs2⟩ : ∃ s, sz[hi]? = some s := ⟨_, List.getElem?_eq_getElem (by omega)⟩
    refine DC.region ?_
    refine Zm ?_
    refine Zo (AU rfl rfl) ?_
    refine Zf DW ?_
    refine Zl HS ?_
    refine Zm ?_
    refine Zm ?_
    refine Zi Tryz.underlying261 AL ?_
    refine Zy (AF (cs' := (ints (tab n (nat (updN q2 hi lo)))).toArray) rfl rfl rfl AL rfl (by simp; omega) (by rw [← GJ]; exact BQ)) ?_
    refine Zx <| DC.seq ?_
    refine AD (cl := [.q, .q, .q, .q, .q, .q, .v, .q, .q, .q, .q, .q, .q, .v, .q, .q, .g]) (A := [0, 1, 3, 7, 0, 31, 63, 0, 128, 384, 896, 0, 3968, 8064, 16383, 32767, 65535]) (order := [0, 1, 2, 3, 4, 5, 6, 7, 8, 9, 10, 11, 12, 13, 14, 15, 16]) ([blk gp 263 #[.slice (some ⟨g1, 0, none⟩) n n, .slice (some ⟨g2, 0, none⟩) n n, .int .i64 c]]) mixed (by kernel_rfl) (fun w hw => hw.pick (.cons 1 rfl .nil)) ?_
    refine Ym ?_
    refine Yo rfl (AU rfl rfl) ?_
    refine Yf Jx ?_
    refine Flow.old rfl rfl rfl (Ai rfl rfl Bp (BM rfl)) ?_
    refine Ym ?_
    refine Yo rfl (Ah rfl rfl rfl Tryz.underlying44 AL (by omega) (by omega) (by first | exact AC _ _ | exact Bf _ _ _ | rfl)) ?_
    refine Aj rfl rfl rfl rfl (Ai rfl rfl AI (Be (BP hs1))) ?_
    refine Ym ?_
    refine Yo rfl (AU rfl rfl) ?_
    refine Yf Jx ?_
    refine Flow.old rfl rfl rfl (Ai rfl rfl Bp (BM rfl)) ?_
    refine Ym ?_
    refine Yo rfl (Ah rfl rfl rfl Tryz.underlying44 AL (by omega) (by omega) (by first | exact AC _ _ | exact Bf _ _ _ | rfl)) ?_
    refine Aj rfl rfl rfl rfl (Ai rfl rfl AI (Be (BP hs2))) ?_
    refine Yo rfl (p_addw rfl rfl rfl) ?_
    refine Yo rfl (Ah rfl rfl rfl Tryz.underlying44 AL (by omega) (by omega) (by first | exact AC _ _ | exact Bf _ _ _ | rfl)) ?_
    refine AX rfl rfl rfl rfl (AF (cs' := (ints (sz.set lo (IntKind.i64.wrap (s1 + s2)))).toArray) rfl rfl rfl AL rfl (by simp; omega) Eo) (fun w hw => hw.pick (.cons 1 rfl .nil)) ?_
    refine Flow.end rfl ?_
    simp only [zq, zr]
    refine Fin.then <| Zs ?_
    refine Zm ?_
    refine Zo (AU rfl rfl) ?_
    refine Zf fi263_2 ?_
    refine Zl AI ?_
    refine Zo (p_subw rfl rfl rfl) ?_
    refine Zo (AU rfl rfl) ?_
    refine Zf fi263_2 ?_
    refine Zy (AF (cs' := #[_, _, _]) rfl rfl rfl AL rfl (Nat.le_of_ble_eq_true rfl) rfl) ?_
    refine Zx <| Zs ?_
    refine Za ?_
    refine Zx <| DC.ret ?_
    refine Fin.weak (E' := [(6, _)]) ⟨rfl, trivial⟩ (.cons 1 rfl (.cons 0 rfl (.cons 0 rfl .nil))) ?_
    refine Ak (.inl rfl) rfl rfl ?_
    exact ⟨updN q2 hi lo, _, _, KV hq2 (by omega), by simp [hs], LJ hP2 hj hsel, rfl⟩
/-- What a check of rotations gives up with. -/
def flt (v e : Int) : Value := .iface 223 (.agg #[.int .i64 v, .int .i64 e])
theorem BN (is : Bool) (v e : Int) (w : World) :
  Calls Tryz.prog 119 #[.bool is, .int .i64 v, .int .i64 e] w (RetP w [] (fun r M => M = [] ∧ is = true) (fun pv M => M = [] ∧ pv = flt v e ∧ is = false)) := by
 refine Da (K := []) (args := [_, _, _]) (L := []) Tryz.func119 rfl Tryz.ntmps119 rfl (Own.start _ _) ?_
 refine Zs ?_
 refine Zm ?_
 refine Zo (Bg rfl rfl) ?_
 refine Zx ?_
 refine Zd (fun c0 => ?_) fun c0 => ?_
 ·refine DC.region ?_
  refine Zm ?_
  refine Zm ?_
  refine Zo (AB (cs := #[_, _]) rfl rfl bs223 rfl rfl) ?_
  refine Zo (E5 (v := flt v e) rfl rfl (fun w => by kernel_rfl)) ?_
  refine Seq.panic rfl rfl rfl ?_
  exact Bn ⟨rfl, rfl, by simpa using c0⟩
 ·refine DC.skip ?_
  refine Do (.inr rfl) (B2 (.inr rfl) rfl ⟨rfl, by simpa using c0⟩)
theorem JK {v e : Int} {x y : Value} {ga gb : Nat} {w : World} (hO : Own w [ga, gb] w [blk ga 3 #[x], blk gb 29 #[y]]) :
  CallsD Tryz.prog 148 #[.pointer (some ⟨ga, 0, none⟩), .pointer (some ⟨gb, 0, none⟩)] (.panicking (onePanic (flt v e))) w
   fun e' u' w' => u' = .panicking [{ v := flt v e, recovered := true }] ∧ Ret w [ga, gb] (fun r M => M = [blk ga 3 #[.int .i64 v], blk gb 29 #[.int .i64 e]]) e' w' := by
 refine D3 (args := [_, _]) Tryz.func148 rfl Tryz.ntmps148 rfl rfl rfl rfl rfl rfl rfl rfl (.some _ []) hO ?_
 refine Zs ?_
 refine Zm ?_
 refine Zo (p_ifnil (b := true) rfl rfl rfl (fun w => by kernel_rfl)) ?_
 refine Zx ?_
 refine AM rfl ?_
 refine Zs ?_
 refine Zm ?_
 refine Zo (CX (v := .tuple #[.agg #[.int .i64 v, .int .i64 e], .bool true]) rfl rfl (fun w => by kernel_rfl)) ?_
 refine Zm ?_
 refine Ze ?_
 refine Ze ?_
 refine Zw (AO rfl ze223 rfl) fun g3 => ?_
 refine Zy (Az (cs' := #[_, _]) rfl rfl rfl sz223 rfl (Nat.le_of_ble_eq_true rfl) rfl) ?_
 refine Za ?_
 refine Zx <| DC.seq <| Zs ?_
 refine Zm ?_
 refine Zo (Bg rfl rfl) ?_
 refine Zx ?_
 refine AT rfl ?_
 refine DC.skip <| Fin.then ?_
 refine AD (cl := [.q, .q, .q, .q, .g, .g]) (A := [0, 1, 0, 4, 3, 31]) (order := [0, 1, 2, 3, 4, 5]) ([blk g3 223 #[.int .i64 v, .int .i64 e]]) mixed (by kernel_rfl) (fun w hw => hw.pick (.cons 0 rfl .nil)) ?_
 refine Yf fi223_0 ?_
 refine Flow.old rfl rfl rfl (Ai rfl rfl AI (BM rfl)) ?_
 refine Yf fi223_1 ?_
 refine Flow.old rfl rfl rfl (Ai rfl rfl HR (BM rfl)) ?_
 refine AX rfl rfl rfl rfl (AF (cs' := #[_]) rfl rfl rfl AL rfl (Nat.le_of_ble_eq_true rfl) rfl) (fun w hw => hw.pick (.cons 0 rfl .nil)) ?_
 refine AX rfl rfl rfl rfl (AF (cs' := #[_]) rfl rfl rfl sz29 rfl (Nat.le_of_ble_eq_true rfl) rfl) (fun w hw => hw.pick (.cons 0 rfl .nil)) ?_
 refine Flow.end rfl ?_
 simp only [zq, zr]
 refine Fin.weak (E' := []) trivial (.cons 1 rfl (.cons 1 rfl .nil)) ?_
 refine B2 (.inr rfl) rfl ?_
 rfl
theorem JL {x y : Value} {ga gb : Nat} {w : World} (hO : Own w [ga, gb] w [blk ga 3 #[x], blk gb 29 #[y]]) :
  CallsD Tryz.prog 148 #[.pointer (some ⟨ga, 0, none⟩), .pointer (some ⟨gb, 0, none⟩)] .returning w
   fun e' u' w' => u' = .returning ∧ Ret w [ga, gb] (fun r M => M = [blk ga 3 #[x], blk gb 29 #[y]]) e' w' := by
 refine D3 (args := [_, _]) Tryz.func148 rfl Tryz.ntmps148 rfl rfl rfl rfl rfl rfl rfl rfl .none hO ?_
 refine Zs ?_
 refine Zm ?_
 refine Zo (Kl (b := false) rfl rfl (fun w => by kernel_rfl)) ?_
 refine Zx ?_
 refine AT rfl ?_
 refine DC.skip ?_
 refine B2 (.inr rfl) rfl ?_
 rfl
theorem own2 {w0 w : World} {K : List Nat} {ga gb t t' : Nat} {x y : Array Value} {F : List Chunk} (h : Own w0 K w (blk ga t x :: blk gb t' y :: F)) : Own w [ga, gb] w [blk ga t x, blk gb t' y] :=
 (h.sub (L' := [blk ga t x, blk gb t' y]) (by simp)).self
/-- rot.caught: a check that returns, or gives up with a fault. -/
theorem FL {f : Nat} {cap : Array Value} {w : World} {Lc : List Chunk} {C : List Chunk → Prop} {D : Int → Int → List Chunk → Prop} (hf : Ent Tryz.prog f) (hO : Own w (idsOf Lc) w Lc)
  (hcon : ∀ w', Own w (idsOf Lc) w' Lc → Calls Tryz.prog f cap w' (RetP w' (idsOf Lc) (fun _ M => C M) (fun pv M => ∃ v e, pv = flt v e ∧ D v e M))) :
  Calls Tryz.prog 112 #[.func (.func f) #[] cap] w (Ret w (idsOf Lc) fun r M => (r = .tuple #[.int .i64 0, .int .i64 0] ∧ C M) ∨ ∃ v e, r = .tuple #[.int .i64 v, .int .i64 e] ∧ D v e M) := by
 refine IU (args := [_]) Tryz.func112 rfl Tryz.ntmps112 rfl hO ?_
 refine Zs ?_
 refine Zw (AO rfl BT rfl) fun g2 => ?_
 refine Zw (AO rfl ze29 rfl) fun g3 => ?_
 refine Zx <| Zs ?_
 refine Zo (F3 rfl rfl rfl) ?_
 refine Seq.defer rfl rfl rfl rfl ?_
 refine Zx <| Zs ?_
 refine Zm ?_
 refine DF (Lc := Lc) (F := [blk g3 29 #[.int .i64 0], blk g2 3 #[.int .i64 0]]) (K' := idsOf Lc) (C := fun _ M => C M) (D := fun pv M => ∃ v e, pv = flt v e ∧ D v e M) rfl rfl hf rfl rfl rfl (List.perm_append_comm (l₁ := [_, _])) (fun _ h => h) (fun w' hw => by simpa using hcon w' (hw.sub ((List.sublist_cons_self _ _).trans (List.sublist_cons_self _ _)))) ?_ ?_
 ·rintro pv M ⟨v, e, rfl, hD⟩
  refine Ay <| HV ?_
  refine Fin.leaves (f := 148) (cap := [.pointer (some ⟨g2, 0, none⟩), .pointer (some ⟨g3, 0, none⟩)]) (Lc := [blk g2 3 #[.int .i64 0], blk g3 29 #[.int .i64 0]]) (F := M) en148 (by simp) rfl
   ((List.perm_append_comm (l₁ := M)).trans (.swap _ _ _)) (fun k hk => by simpa [blk] using hk) (fun w' hw => JK (own2 (hw.perm ((List.perm_append_comm (l₁ := M)).trans (.swap _ _ _)).symm))) ?_
  rintro r L' rfl a w' ha hw
  have e2 : a.tmps.getD 2 undef = .pointer (some ⟨g2, 0, none⟩) := by have := ha.ev (x := .tmp 2) (v := .pointer (some ⟨g2, 0, none⟩)) rfl; simpa only [Act.eval] using this
  have e3 : a.tmps.getD 3 undef = .pointer (some ⟨g3, 0, none⟩) := by have := ha.ev (x := .tmp 3) (v := .pointer (some ⟨g3, 0, none⟩)) rfl; simpa only [Act.eval] using this
  exact ⟨_, FX rfl e2 e3 (Ca (hw.holds (blk g2 3 #[.int .i64 v]) (by simp)) AI rfl) (Ca (hw.holds (blk g3 29 #[.int .i64 e]) (by simp)) HR rfl),
   _, M, rfl, .inr ⟨v, e, rfl, hD⟩, hw.sub ((List.sublist_cons_self _ _).trans (List.sublist_cons_self _ _))⟩
 intro v6 M hC
 refine Seq.own (fun w hw => hw.perm (List.perm_append_comm (l₁ := [_, _]))) ?_
 simp only [List.cons_append, List.nil_append]
 refine Zx <| Zs ?_
 refine Zy (AF (cs' := #[_]) rfl rfl rfl AL rfl (Nat.le_of_ble_eq_true rfl) rfl) ?_
 refine Zy (AF (cs' := #[_]) rfl rfl rfl sz29 rfl (Nat.le_of_ble_eq_true rfl) rfl) ?_
 refine Zx <| DC.ret ?_
 refine Li ?_
 refine Fin.leaves (f := 148) (cap := [.pointer (some ⟨g2, 0, none⟩), .pointer (some ⟨g3, 0, none⟩)]) (Lc := [blk g2 3 #[.int .i64 0], blk g3 29 #[.int .i64 0]]) (F := M) en148 (by simp) rfl
  (.swap _ _ _) (fun k hk => by simpa [blk] using hk) (fun w' hw => JL (own2 (hw.perm (.swap _ _ _)))) ?_
 rintro r L' rfl a w' ha hw
 have e2 : a.tmps.getD 2 undef = .pointer (some ⟨g2, 0, none⟩) := by have := ha.ev (x := .tmp 2) (v := .pointer (some ⟨g2, 0, none⟩)) rfl; simpa only [Act.eval] using this
 have e3 : a.tmps.getD 3 undef = .pointer (some ⟨g3, 0, none⟩) := by have := ha.ev (x := .tmp 3) (v := .pointer (some ⟨g3, 0, none⟩)) rfl; simpa only [Act.eval] using this
 exact ⟨_, FX rfl e2 e3 (Ca (hw.holds (blk g2 3 #[.int .i64 0]) (by simp)) AI rfl) (Ca (hw.holds (blk g3 29 #[.int .i64 0]) (by simp)) HR rfl),
  _, M, rfl, .inl ⟨rfl, hC⟩, hw.sub ((List.sublist_cons_self _ _).trans (List.sublist_cons_self _ _))⟩
theorem Ew : KeyK Tryz.prog 3 encI := keyI Tryz.underlying3
theorem Gb : KeyK Tryz.prog 35 encP := keyAsk (by kernel_rfl) (fun e x w => by kernel_rfl) (equalA (by kernel_rfl)) sameP
theorem keyEdge : KeyK Tryz.prog 43 encP := keyAsk (by kernel_rfl) (fun e x w => by kernel_rfl) (equalS (by kernel_rfl)) sameP
theorem CA {N : Int} {es : List Pr} {va : Value} {w : World} (h : PrV w va es) : Calls Tryz.prog 41 #[.agg #[.int .i64 N, va]] w (Ret w [] fun v L => L = [] ∧ ∃ b, v = .bool b ∧ (b = true ↔ Vld N es)) := by
 obtain ⟨A, cap, rfl, hr, _, _, hle⟩ := h
 exact Eh N es A cap w hr (by omega)
structure FrI where
 i : Nat
 m : List (Pr × Value)
structure FrJ where
 v : Nat
 rs : RL
structure FrK where
 k : Nat
 pv : Value
 hs : List Int
 sm : List (Int × Value)
/-- What stands in the rows that are done. -/
structure RowsDone (es : List Pr) (ls : List (List Int)) (v : Nat) (rs : RL) : Prop where
 len : rs.length = ls.length
 ok : ∀ (x : Nat) l, x < v → ls[x]? = some l → (∀ u, u ∈ l → ∃ h, IsHalf es x u h) ∧ l.Nodup ∧ (l.length : Int) = cnt es x
 row : ∀ (x : Nat) l r, x < v → ls[x]? = some l → rs[x]? = some r → r.2.length = l.length ∧ ∀ (j : Nat) u h, l[j]? = some u → r.2[j]? = some h → IsHalf es x u h
 nil : ∀ (x : Nat) r, v ≤ x → rs[x]? = some r → r.2 = []
structure RowPart (es : List Pr) (v : Nat) (l : List Int) (j : FrK) : Prop where
 le : j.k ≤ l.length
 len : j.hs.length = j.k
 half : ∀ (q : Nat) u h, l[q]? = some u → j.hs[q]? = some h → IsHalf es v u h
 nd : (l.take j.k).Nodup
 ex : ∀ u, u ∈ l.take j.k → ∃ h, IsHalf es v u h
 seen : ∀ h, lkM j.sm h = if h ∈ j.hs then some (.bool true) else none
theorem Lg {N : Int} {es : List Pr} {ls : List (List Int)} {va v : Value} {w0 w : World} {ga gb gc : Nat} (hg : PrV w0 va es) (hl : LsV w0 v ls)
  (hO : Own w0 [] w [blk gc 59 #[.slice none 0 0], blk gb 25 #[v], blk ga 24 #[.int .i64 N, va]]) :
  Calls Tryz.prog 118 #[.pointer (some ⟨ga, 0, none⟩), .pointer (some ⟨gb, 0, none⟩), .pointer (some ⟨gc, 0, none⟩)] w
   (RetP w (idsOf [blk gc 59 #[.slice none 0 0], blk gb 25 #[v], blk ga 24 #[.int .i64 N, va]])
    (fun _ M => RotOk N es ls ∧ ∃ g rs, M = [blk gc 59 #[.slice (some ⟨g, 0, none⟩) N.toNat N.toNat], blk g 44 (rowsV rs).toArray] ++ rowsC 3 rs ∧ RotR es ls (rs.map Prod.snd))
    (fun pv M => ∃ v e, pv = flt v e ∧ (e ≠ 0 ∧ ¬ RotOk N es ls))) := by
 have hg0 := hg
 obtain ⟨A, cap, rfl, hr, hlc, hcm, hle⟩ := hg
 obtain ⟨B, capb, rfl, hrb, hlb, hcb, hleb⟩ := hl
 refine Da (args := [_, _, _]) Tryz.func118 rfl Tryz.ntmps118 rfl hO.self ?_
 refine Zs ?_
 refine Zu (Aw (vs := [_, _]) rfl rfl Bo Bh rfl (Am rfl)) ?_
 refine Seq.rel0 rfl rfl (Ao L9 rfl rfl rfl (fun w' hw => CA (Hg hg0 hO hw))) ?_
 rintro _ ⟨b, rfl, hb⟩
 refine BO rfl rfl Ee rfl rfl rfl (fun w' hw => BN b 0 1 w') ?_ ?_
 ·rintro _ ⟨rfl, hbf⟩
  refine Ay <| ?_
  exact Bn ⟨0, 1, rfl, by decide, fun h => by have := hb.2 h.1; rw [hbf] at this; cases this⟩
 rintro _ hbt
 have hV : Vld N es := hb.1 hbt
 refine Zx <| Zs ?_
 refine Zl Dl ?_
 refine Zn Tryz.underlying25 ?_
 refine Zf Bz ?_
 refine Zl AI ?_
 refine Zo (AN rfl rfl rfl) ?_
 refine BO rfl rfl Ee rfl rfl rfl (fun w' hw => BN _ 0 110 w') ?_ ?_
 ·rintro _ ⟨rfl, hbf⟩
  refine Ay <| ?_
  exact Bn ⟨0, 110, rfl, by decide, fun h => by simp at hbf; exact hbf h.2.1⟩
 rintro _ hbN
 have hN : (ls.length : Int) = N := by simpa using hbN
 subst hN
 have hN1 := hV.hi
 have hfew := hV.few
 refine Zx <| Zs ?_
 refine Seq.rel rfl rfl (Dx (enc := encP) rfl) ?_
 rintro _ _ ⟨gm, rfl, rfl⟩
 simp only [List.cons_append, List.nil_append]
 refine Za ?_
 refine Zx <| DC.seq <| Zs ?_
 refine Zf AS ?_
 refine Zl Bj ?_
 refine Zn Tryz.underlying22 ?_
 refine Zm ?_
 refine Zx <| DC.block ?_
 refine DC.loop (ι := FrI) (fun j => j.i ≤ es.length ∧ HalfM es j.i (lkM j.m))
  (fun j => [(0, .pointer (some ⟨ga, 0, none⟩)), (1, .pointer (some ⟨gb, 0, none⟩)), (2, .pointer (some ⟨gc, 0, none⟩)), (3, .map (some gm)), (26, (.slice A es.length cap)), (27, .int .i64 es.length), (28, .int .i64 j.i)])
  (fun j => [mpc encP gm j.m, blk gc 59 #[.slice none 0 0], blk gb 25 #[.slice B ls.length capb], blk ga 24 #[.int .i64 (ls.length : Int), (.slice A es.length cap)]]) (fun j => es.length - j.i) ⟨0, []⟩ ⟨Nat.zero_le _, L3 es⟩ ⟨rfl, rfl, rfl, rfl, rfl, rfl, rfl, trivial⟩ (.cons 0 rfl (.cons 0 rfl (.cons 0 rfl (.cons 0 rfl .nil)))) ?_
 rintro ⟨i, m⟩ ⟨hi, hm⟩
 dsimp only at hi hm ⊢
 refine Zs ?_
 refine Zc ?_
 refine Zx <| DC.seq ?_
 refine Zd (fun c4 => ?_) fun c4 => ?_
 ·have hlt : i < es.length := by simpa using c4
  obtain ⟨e, he⟩ : ∃ e, es[i]? = some e := ⟨_, List.getElem?_eq_getElem hlt⟩
  obtain ⟨ad, rfl, hU, hVe⟩ := hr.pair he
  refine DC.skip <| Fin.then <| DC.seq <| DC.block <| Zs ?_
  refine Zm ?_
  refine Zo (AE rfl rfl rfl Tryz.underlying22 AW (by omega) (by omega) (by first | exact AC _ _ | exact Bf _ _ _ | rfl)) ?_
  refine Zu (Aw (vs := [_, _]) rfl rfl Cr AW rfl (hass_base hO hU hVe)) ?_
  refine Zw (AO rfl CK rfl) fun g5 => ?_
  refine Za ?_
  refine Zy (Az (cs' := #[_, _]) rfl rfl rfl AW rfl (Nat.le_of_ble_eq_true rfl) rfl) ?_
  refine Zx ?_
  refine AD (cl := [.q, .q, .q, .q, .q, .q, .q, .q, .q, .q, .q, .q, .q, .q, .q, .q, .q, .g, .g]) (A := [0, 0, 2, 0, 8, 30, 0, 0, 128, 0, 512, 1920, 0, 4096, 0, 16384, 49152, 12351, 262143]) (order := [0, 1, 2, 3, 4, 5, 6, 7, 8, 9, 10, 11, 12, 13, 14, 15, 16, 17, 18]) ([blk g5 43 #[.int .i64 e.1, .int .i64 e.2]]) mixed (by kernel_rfl) (fun w hw => hw.pick (.cons 0 rfl .nil)) ?_
  refine Ym ?_
  refine Yf AZ ?_
  refine Flow.old rfl rfl rfl (Ai rfl rfl AI (BM rfl)) ?_
  refine Yf Bi ?_
  refine Flow.old rfl rfl rfl (Ai rfl rfl AI (BM rfl)) ?_
  refine Yo rfl (GF (cs := #[.int .i64 e.1, .int .i64 e.2]) rfl rfl (by kernel_rfl)) ?_
  refine Ym ?_
  refine Yf Bi ?_
  refine Flow.old rfl rfl rfl (Ai rfl rfl AI (BM rfl)) ?_
  refine Yf AZ ?_
  refine Flow.old rfl rfl rfl (Ai rfl rfl AI (BM rfl)) ?_
  refine Yo rfl (GF (cs := #[.int .i64 e.2, .int .i64 e.1]) rfl rfl (by kernel_rfl)) ?_
  refine Ym ?_
  refine Yo rfl (Ci rfl rfl rfl (by omega)) ?_
  refine Ym ?_
  refine Yo rfl (Ci rfl rfl rfl (by omega)) ?_
  refine Yo rfl (Cv rfl rfl rfl (by omega)) ?_
  refine AX rfl rfl rfl rfl (B3 (k := (e.1, e.2)) 1 rfl Gb rfl rfl rfl rfl Tryz.underlying191 rfl) (fun w hw => hw.pick (.cons 0 rfl .nil)) ?_
  refine AX rfl rfl rfl rfl (B3 (k := (e.2, e.1)) 1 rfl Gb rfl rfl rfl rfl Tryz.underlying191 rfl) (fun w hw => hw.pick (.cons 0 rfl .nil)) ?_
  refine Flow.end rfl ?_
  simp only [zq, zr]
  refine Fin.inBlock <| Fin.then <| DC.region ?_
  refine Zp ?_
  refine Zm ?_
  refine Seq.nil ?_
  refine Fin.again ⟨i + 1, putM (e.2, e.1) (.int .i64 (2 * (i : Int) + 1)) (putM (e.1, e.2) (.int .i64 (2 * (i : Int))) m)⟩ (by dsimp only; omega) ⟨by dsimp only; omega, ?_⟩ ⟨rfl, rfl, rfl, rfl, rfl, rfl, rfl, trivial⟩ (.cons 1 rfl (.cons 1 rfl (.cons 1 rfl (.cons 1 rfl .nil))))
  have := L4 hV he hm
  intro p v
  dsimp only
  rw [DQ, DQ]
  exact this p v
 ·refine DC.exit <| Ad <| Ad <| Ag <| Fin.then <| Zs ?_
  refine Zu (Aw (vs := [_, _]) rfl rfl Bo Bh rfl (Am rfl)) ?_
  refine Seq.rel rfl rfl (Ao en120 rfl rfl rfl (fun w' hw => EV (Hg hg0 hO hw))) ?_
  intro v53 L53 hC53
  obtain ⟨_, gd, rfl, rfl⟩ := hC53.resolve_right (fun h => h.1 hV)
  simp only [Int.toNat_natCast, List.cons_append, List.nil_append]
  refine Zm ?_
  refine Ze ?_
  refine Ze ?_
  refine Za ?_
  refine Za ?_
  refine Zx <| Zs ?_
  refine Zf Bz ?_
  refine Zl AI ?_
  refine Zw (B1 (k := ls.length) (cs := (rowsV (List.replicate ls.length (.slice none 0 0, []))).toArray) rfl rfl rfl Tryz.underlying59 Br HN CV rfl (by omega) (by omega) (by rw [Fw _ rfl]; simp [rowsV])) fun g58 => ?_
  refine Zy (AF (cs' := #[_]) rfl rfl rfl sz59 rfl (Nat.le_of_ble_eq_true rfl) rfl) ?_
  refine Zx <| Zs ?_
  refine Zl Dl ?_
  refine Zn Tryz.underlying25 ?_
  refine Zm ?_
  refine Zx <| DC.block ?_
  have hie : i = es.length := by simp at c4; omega
  subst hie
  refine DC.own (fun w hw => own_nils (t := 3) ls.length hw) ?_
  refine DC.loop (ι := FrJ) (fun j => j.v ≤ ls.length ∧ RowsDone es ls j.v j.rs)
   (fun j => [(0, .pointer (some ⟨ga, 0, none⟩)), (1, .pointer (some ⟨gb, 0, none⟩)), (2, .pointer (some ⟨gc, 0, none⟩)), (3, .map (some gm)), (6, .slice (some ⟨gd, 0, none⟩) ls.length ls.length), (59, .slice B ls.length capb), (60, .int .i64 ls.length), (61, .int .i64 j.v)])
   (fun j => [blk g58 44 (rowsV j.rs).toArray, blk gd 3 (ints (tab ls.length (fun v => cnt es v))).toArray, mpc encP gm m, blk gc 59 #[.slice (some ⟨g58, 0, none⟩) ls.length ls.length], blk gb 25 #[.slice B ls.length capb], blk ga 24 #[.int .i64 (ls.length : Int), (.slice A es.length cap)]] ++ rowsC 3 j.rs) (fun j => ls.length - j.v) ⟨0, List.replicate ls.length (.slice none 0 0, [])⟩
   ⟨Nat.zero_le _, ⟨by simp, fun _ _ h => absurd h (Nat.not_lt_zero _), fun _ _ _ h => absurd h (Nat.not_lt_zero _), fun x r _ hx => by simp [List.getElem?_replicate] at hx; rw [← hx.2]⟩⟩ ⟨rfl, rfl, rfl, rfl, rfl, rfl, rfl, rfl, trivial⟩ (Pick.all _) ?_
  rintro ⟨v, rs⟩ ⟨hv, hd⟩
  dsimp only at hv hd ⊢
  simp only [List.cons_append, List.nil_append]
  refine Zs ?_
  refine Zc ?_
  refine Zx <| DC.seq ?_
  refine Zd (fun c11 => ?_) fun c11 => ?_
  ·have hvlt : v < ls.length := by simpa using c11
   obtain ⟨l, hl⟩ : ∃ l, ls[v]? = some l := ⟨_, List.getElem?_eq_getElem hvlt⟩
   obtain ⟨adb, lv, rfl, hc, Al, capl, rfl, hrl, hl1, hl2, hl3⟩ := hrb v l hl
   have hrlen := hd.len
   obtain ⟨p0, hp0⟩ : ∃ p, rs[v]? = some p := ⟨_, List.getElem?_eq_getElem (by omega)⟩
   have hp0n := hd.nil v p0 (Nat.le_refl _) hp0
   obtain ⟨pv0, hs0⟩ := p0
   dsimp only at hp0n
   subst hp0n
   have hset0 : rs.set v (pv0, []) = rs := by
    apply List.ext_getElem?
    intro q
    rw [List.getElem?_set]
    split
    ·rename_i e; subst e; rw [if_pos (by omega)]; exact hp0.symm
    ·rfl
   refine DC.skip <| Fin.then <| DC.seq <| DC.block <| Zs ?_
   refine Zm ?_
   refine Zi Tryz.underlying25 Br ?_
   refine Zu (Ai rfl rfl Bp (FA hO hc)) ?_
   refine Za ?_
   refine Za ?_
   refine Zx <| Zs ?_
   refine Seq.rel rfl rfl (Dx (enc := encI) rfl) ?_
   rintro _ _ ⟨gs, rfl, rfl⟩
   simp only [List.cons_append, List.nil_append]
   refine Za ?_
   refine Zx <| DC.seq <| Zs ?_
   refine Zm ?_
   refine Zn Tryz.underlying44 ?_
   refine Zm ?_
   refine Zx <| DC.block ?_
   refine DC.loop (ι := FrK) (fun j => RowPart es v l j)
    (fun j => [(0, .pointer (some ⟨ga, 0, none⟩)), (1, .pointer (some ⟨gb, 0, none⟩)), (2, .pointer (some ⟨gc, 0, none⟩)), (3, .map (some gm)), (6, .slice (some ⟨gd, 0, none⟩) ls.length ls.length), (8, .int .i64 v), (9, .slice Al l.length capl), (10, .map (some gs)), (59, .slice (some adb) ls.length capb), (60, .int .i64 ls.length), (61, .int .i64 v), (67, .slice Al l.length capl), (68, .int .i64 l.length), (69, .int .i64 j.k)])
    (fun j => [mpc encI gs j.sm, blk g58 44 (rowsV (rs.set v (j.pv, j.hs))).toArray, blk gd 3 (ints (tab ls.length (fun v => cnt es v))).toArray, mpc encP gm m, blk gc 59 #[.slice (some ⟨g58, 0, none⟩) ls.length ls.length], blk gb 25 #[.slice (some adb) ls.length capb], blk ga 24 #[.int .i64 (ls.length : Int), (.slice A es.length cap)]] ++ rowsC 3 (rs.set v (j.pv, j.hs))) (fun j => l.length - j.k) ⟨0, pv0, [], []⟩
    ⟨Nat.zero_le _, rfl, by simp, by simp, by simp, by simp⟩ ⟨rfl, rfl, rfl, rfl, rfl, rfl, rfl, rfl, rfl, rfl, rfl, rfl, rfl, rfl, trivial⟩ (by dsimp only; rw [hset0]; exact Pick.all _) ?_
   rintro ⟨k, pv, hs, sm⟩ hR
   have hRle := hR.le
   have hRlen := hR.len
   dsimp only at hRle hRlen ⊢
   simp only [List.cons_append, List.nil_append]
   refine Zs ?_
   refine Zc ?_
   refine Zx <| DC.seq ?_
   refine Zd (fun c15 => ?_) fun c15 => ?_
   ·have hklt : k < l.length := by simpa using c15
    obtain ⟨u, hu⟩ : ∃ u, l[k]? = some u := ⟨_, List.getElem?_eq_getElem hklt⟩
    obtain ⟨adl, rfl, hcu⟩ := hrl.int hu
    refine DC.skip <| Fin.then <| DC.seq <| DC.block <| Zs ?_
    refine Zi Tryz.underlying44 AL ?_
    refine Zu (Ai rfl rfl AI (FA hO hcu)) ?_
    refine Za ?_
    refine Zx <| Zs ?_
    refine Zm ?_
    refine Zm ?_
    refine Zm ?_
    refine Zo (GF (cs := #[.int .i64 v, .int .i64 u]) rfl rfl (by kernel_rfl)) ?_
    obtain ⟨x0, jn, hlk, hj1, hj2⟩ : ∃ x0 jn, (if true then (.tuple #[(lkM m ((v : Int), u)).getD (.int .i64 0), .bool (lkM m ((v : Int), u)).isSome] : Value) else (lkM m ((v : Int), u)).getD (.int .i64 0)) = .tuple #[x0, .bool jn] ∧ (jn = true → ∃ h, x0 = .int .i64 h ∧ IsHalf es v u h) ∧ (jn = false → ∀ h, ¬ IsHalf es v u h) := by
     refine ⟨_, _, rfl, fun hj => ?_, fun hj h hh => ?_⟩
     ·obtain ⟨x, hx⟩ := Option.isSome_iff_exists.1 hj
      obtain ⟨h, rfl, hh, _⟩ := (hm _ _).1 hx
      exact ⟨h, by rw [hx]; rfl, hh⟩
     ·have := (hm ((v : Int), u) (.int .i64 h)).2 ⟨h, rfl, hh, by have := hh.hi; omega⟩
      rw [this] at hj; cases hj
    refine Zu (CW (k := ((v : Int), u)) 3 rfl Gb rfl rfl rfl Tryz.underlying191 BT hlk) ?_
    refine Zm ?_
    refine Ze ?_
    refine Ze ?_
    refine Za ?_
    refine Za ?_
    refine Zx <| Zs ?_
    refine Zm ?_
    refine Zm ?_
    refine BO rfl rfl Ee rfl rfl rfl (fun w' hw => BN jn v 111 w') ?_ ?_
    ·rintro _ ⟨rfl, hbf⟩
     refine Ay <| AA <| Ay <| Ay <| AA <| Ay <| AA <| Ay <| Ay <| AA <| ?_
     refine Bn ⟨v, 111, rfl, by decide, fun h => ?_⟩
     obtain ⟨h1, hh⟩ := (h.2.2 v l hl).1 u (List.mem_of_getElem? hu)
     exact hj2 hbf h1 hh
    rintro _ hjt
    obtain ⟨h, rfl, hh⟩ := hj1 hjt
    refine Zx <| Zs ?_
    refine Zm ?_
    refine Zm ?_
    refine Zu (CW (ok := false) (v := .bool (decide (h ∈ hs))) (k := h) 0 rfl Ew rfl rfl rfl Tryz.underlying194 ze4 (by rw [hR.seen h]; dsimp only; by_cases hm : h ∈ hs <;> simp [hm])) ?_
    refine Zo (Bg rfl rfl) ?_
    refine Zm ?_
    refine BO rfl rfl Ee rfl rfl rfl (fun w' hw => BN _ v 112 w') ?_ ?_
    ·rintro _ ⟨rfl, hbf⟩
     refine Ay <| AA <| Ay <| Ay <| AA <| Ay <| AA <| Ay <| Ay <| AA <| ?_
     refine Bn ⟨v, 112, rfl, by decide, fun hok => ?_⟩
     have hin : h ∈ hs := by simpa using hbf
     obtain ⟨q, hq⟩ := List.mem_iff_getElem?.1 hin
     have hqk : q < k := by have := (List.getElem?_eq_some_iff.1 hq).1; omega
     obtain ⟨u', hu'⟩ : ∃ u', l[q]? = some u' := ⟨_, List.getElem?_eq_getElem (by omega)⟩
     have h1 := (hR.half q u' h hu' hq).to
     have h2 := hh.to
     have hnd := (hok.2.2 v l hl).2.1
     have : q = k := by
      exact (List.getElem?_inj (by omega) hnd).1 (by rw [hu', hu, ← h1, h2])
     omega
    rintro _ hnin
    have hni : h ∉ hs := by simpa using hnin
    refine Zx <| Zs ?_
    refine Zm ?_
    refine Zm ?_
    refine Zy (B3 (k := h) 0 rfl Ew rfl rfl rfl rfl Tryz.underlying194 rfl) ?_
    simp only [List.set_cons_zero]
    refine Zx ?_
    obtain ⟨rs1, hrs1⟩ : ∃ rs1, rs1 = rs.set v (pv, hs) := ⟨_, rfl⟩
    have hl1 : rs1.length = ls.length := by rw [hrs1]; simp [hrlen]
    have hp1 : rs1[v]? = some (pv, hs) := by rw [hrs1, List.getElem?_set_self (by omega)]
    rw [← hrs1]
    refine AD (cl := [.q, .q, .q, .q, .q, .v, .q, .n, .g, .q, .g]) (A := [0, 0, 0, 0, 12, 28, 0, 64, 252, 511, 1023]) (order := [0, 1, 2, 3, 4, 5, 6, 7, 8, 9, 10]) ([blk gc 59 #[.slice (some ⟨g58, 0, none⟩) ls.length ls.length]]) mixed (by kernel_rfl) (fun w hw => hw.pick (.cons 4 rfl .nil)) ?_
    refine Flow.old rfl rfl rfl (Ai rfl rfl ag59 (BM rfl)) ?_
    refine Ym ?_
    refine Flow.old rfl rfl rfl (Ai rfl rfl ag59 (BM rfl)) ?_
    refine Ym ?_
    refine Yo rfl (Ah rfl rfl rfl Tryz.underlying59 Br (by omega) (by omega) (by first | exact AC _ _ | exact Bf _ _ _ | rfl)) ?_
    refine Aj rfl rfl rfl rfl (Ai rfl rfl Bp (Be (Il hp1))) ?_
    refine Ym ?_
    refine Bt rfl rfl rfl rfl (AP (cs := #[_]) rfl rfl Tryz.underlying44 AL BT rfl (by decide) (by decide) rfl rfl) fun g99 => ?_
    refine DH (V := blk g99 3 #[.int .i64 h] :: mpc encI gs (putM h (.bool true) sm) :: blk g58 44 (rowsV rs1).toArray :: blk gd 3 (ints (tab ls.length (fun v => cnt es v))).toArray :: mpc encP gm m :: blk gc 59 #[.slice (some ⟨g58, 0, none⟩) ls.length ls.length] :: blk gb 25 #[.slice (some adb) ls.length capb] :: blk ga 24 #[.int .i64 (ls.length : Int), (.slice A es.length cap)] :: rowsC 3 rs1) rfl rfl rfl rfl rfl
     (Gen.shape (AG (F := [blk g99 3 #[.int .i64 h], mpc encI gs (putM h (.bool true) sm), blk g58 44 (rowsV rs1).toArray, blk gd 3 (ints (tab ls.length (fun v => cnt es v))).toArray, mpc encP gm m, blk gc 59 #[.slice (some ⟨g58, 0, none⟩) ls.length ls.length], blk gb 25 #[.slice (some adb) ls.length capb], blk ga 24 #[.int .i64 (ls.length : Int), (.slice A es.length cap)]] ++ rowsC 3 (rs1.eraseIdx v)) (vs := ints hs) (k := 1) (news := [.int .i64 h]) rfl rfl rfl Tryz.underlying44 AL Dp BT rfl (by decide) (by decide)
      (fun w hw => hw.perm (GA hp1 _).symm) (.inl ⟨_, _, rfl, Am rfl⟩) rfl (by intro u hu; simp at hu; subst hu; rfl) (by rw [ints_length]; omega))) (fun v L' hC w hw => by obtain ⟨_, rfl⟩ := hC; exact hw.pick (.cons 6 rfl .nil)) ?_
    rintro _ _ ⟨⟨A1, l1, c1, rfl⟩, rfl⟩
    simp only [List.cons_append, List.nil_append]
    refine Yo rfl (Ah rfl rfl rfl Tryz.underlying59 Br (by omega) (by omega) (by first | exact AC _ _ | exact Bf _ _ _ | rfl)) ?_
    refine AX rfl rfl rfl rfl (AF (cs' := (rowsV (rs1.set v (.slice A1 l1 c1, hs ++ [h]))).toArray) rfl rfl rfl Br rfl (by simp; omega) (rowsV_set rs1 v (.slice A1 l1 c1, hs ++ [h]))) (fun w hw => hw.pick (.cons 6 rfl .nil)) ?_
    refine Flow.end rfl ?_
    simp only [zq, zr]
    refine Fin.own (M := [mpc encI gs (putM h (.bool true) sm), blk g58 44 (rowsV (rs1.set v (.slice A1 l1 c1, hs ++ [h]))).toArray, blk gd 3 (ints (tab ls.length (fun v => cnt es v))).toArray, mpc encP gm m, blk gc 59 #[.slice (some ⟨g58, 0, none⟩) ls.length ls.length], blk gb 25 #[.slice (some adb) ls.length capb], blk ga 24 #[.int .i64 (ls.length : Int), (.slice A es.length cap)]] ++ rowsC 3 (rs1.set v (.slice A1 l1 c1, hs ++ [h]))) (fun w hw => ?_) ?_
    ·have h4 := (hw.pick (.cons 1 rfl (Pick.all _))).sub (List.sublist_cons_self ..)
     have h5 := h4.pick (L' := slc (.slice A1 l1 c1) 3 1 (ints (hs ++ [h])) :: ([mpc encI gs (putM h (.bool true) sm), blk g58 44 (rowsV (rs1.set v (.slice A1 l1 c1, hs ++ [h]))).toArray, blk gd 3 (ints (tab ls.length (fun v => cnt es v))).toArray, mpc encP gm m, blk gc 59 #[.slice (some ⟨g58, 0, none⟩) ls.length ls.length], blk gb 25 #[.slice (some adb) ls.length capb], blk ga 24 #[.int .i64 (ls.length : Int), (.slice A es.length cap)]] ++ rowsC 3 (rs1.eraseIdx v))) (.cons' 0 rfl (by rw [AQ]; rfl) (Pick.all _))
     exact h5.perm (rows_set (.slice A1 l1 c1, hs ++ [h]) (by omega) _).symm
    rw [hrs1, List.set_set]
    refine Fin.inBlock <| Fin.then <| DC.region ?_
    refine Zp ?_
    refine Zm ?_
    refine Seq.nil ?_
    refine Fin.again (FrK.mk (k + 1) (.slice A1 l1 c1) (hs ++ [h]) (putM h (.bool true) sm)) (by dsimp only; omega) ?_ ⟨rfl, rfl, rfl, rfl, rfl, rfl, rfl, rfl, rfl, rfl, rfl, rfl, rfl, rfl, trivial⟩ (Pick.all _)
    have htk : l.take (k + 1) = l.take k ++ [u] := by rw [List.take_add_one, hu]; rfl
    refine ⟨by dsimp only; omega, by simp [hRlen], ?_, ?_, ?_, ?_⟩
    ·intro q u' h' hu' hh'
     dsimp only at hh'
     rw [List.getElem?_append] at hh'
     split at hh'
     ·exact hR.half q u' h' hu' hh'
     ·have hqk : q = k := by
       have : q - hs.length < 1 := by have := (List.getElem?_eq_some_iff.1 hh').1; simpa using this
       omega
      subst hqk
      rw [hu] at hu'; cases hu'
      rw [show q - hs.length = 0 by omega] at hh'
      cases hh'; exact hh
    ·dsimp only
     rw [htk, List.nodup_append]
     refine ⟨hR.nd, by simp, fun a ha b hb e => ?_⟩
     simp at hb; subst hb; subst e
     obtain ⟨q, hq⟩ := List.mem_iff_getElem?.1 ha
     rw [List.getElem?_take] at hq
     split at hq
     ·rename_i hqk
      obtain ⟨h', hh'⟩ : ∃ h', hs[q]? = some h' := ⟨_, List.getElem?_eq_getElem (by omega)⟩
      have := (hR.half q a h' hq hh').uniq hV hh
      subst this
      exact hni (List.mem_of_getElem? hh')
     ·cases hq
    ·dsimp only
     intro u' hu'
     rw [htk, List.mem_append] at hu'
     rcases hu' with hu' | hu'
     ·exact hR.ex u' hu'
     ·simp at hu'; subst hu'; exact ⟨h, hh⟩
    ·intro h'
     dsimp only
     rw [DQ, hR.seen h']
     by_cases e : h' = h
     ·subst e; simp
     ·simp [e]
   ·refine DC.exit <| Ad <| Ad <| Ag <| Fin.then ?_
    have hkl : k = l.length := by simp at c15; omega
    subst hkl
    obtain ⟨rs1, hrs1⟩ : ∃ rs1, rs1 = rs.set v (pv, hs) := ⟨_, rfl⟩
    rw [← hrs1]
    have hnd := hR.nd
    have hex := hR.ex
    dsimp only at hnd hex
    rw [List.take_length] at hnd hex
    refine DC.region ?_
    refine Zm ?_
    refine Zn Tryz.underlying44 ?_
    refine Zm ?_
    refine Zm ?_
    refine Zi Tryz.underlying44 AL ?_
    refine Zu (Ai rfl rfl AI (Be (Bs hvlt))) ?_
    refine Zo (AN rfl rfl rfl) ?_
    refine Zm ?_
    refine BO rfl rfl Ee rfl rfl rfl (fun w' hw => BN _ v 113 w') ?_ ?_
    ·rintro _ ⟨rfl, hbf⟩
     refine AA <| Ay <| Ay <| AA <| ?_
     refine Bn ⟨v, 113, rfl, by decide, fun hok => ?_⟩
     have := (hok.2.2 v l hl).2.2
     simp at hbf
     exact hbf this
    rintro _ hbt3
    have hcnt : (l.length : Int) = cnt es v := by simpa using hbt3
    refine Seq.nil <| Fin.inBlock <| Fin.then <| DC.region ?_
    refine Zp ?_
    refine Zm ?_
    refine Seq.nil ?_
    refine Fin.own (fun w hw => hw.sub (List.sublist_cons_self ..)) ?_
    refine Fin.again (FrJ.mk (v + 1) rs1) (by dsimp only; omega) ⟨by dsimp only; omega, ?_⟩ ⟨rfl, rfl, rfl, rfl, rfl, rfl, rfl, rfl, trivial⟩ (Pick.all _)
    subst hrs1
    refine ⟨by simp [hrlen], ?_, ?_, ?_⟩
    ·intro x l' hx hl'
     dsimp only at hx
     rcases Nat.lt_succ_iff_lt_or_eq.1 hx with hx | rfl
     ·exact hd.ok x l' hx hl'
     ·rw [hl] at hl'; cases hl'
      exact ⟨hex, hnd, hcnt⟩
    ·intro x l' r hx hl' hr'
     dsimp only at hx
     rw [List.getElem?_set] at hr'
     split at hr'
     ·rename_i e; subst e
      rw [if_pos (by omega)] at hr'
      cases hr'
      rw [hl] at hl'; cases hl'
      exact ⟨hRlen, hR.half⟩
     ·exact hd.row x l' r (by omega) hl' hr'
    ·intro x r hx hr'
     dsimp only at hx
     rw [List.getElem?_set_ne (by omega)] at hr'
     exact hd.nil x r (by omega) hr'
  ·refine DC.exit <| Ad <| Ad <| Ag ?_
   have hvl : v = ls.length := by simp at c11; omega
   subst hvl
   refine Fin.weak (E' := []) trivial (.cons 3 rfl (.cons 0 rfl (.cons 0 rfl (.cons 0 rfl (.cons 0 rfl (.cons 0 rfl (Pick.all _))))))) ?_
   refine Fin.own (M := [blk gc 59 #[.slice (some ⟨g58, 0, none⟩) ls.length ls.length], blk g58 44 (rowsV rs).toArray] ++ rowsC 3 rs) (fun w hw => hw.sub (.cons_cons _ (.cons_cons _ (.cons _ (.cons _ (.cons _ (.cons _ (List.Sublist.refl _)))))))) ?_
   refine Do (.inr rfl) (B2 (.inr rfl) rfl ⟨⟨hV, rfl, fun x l hl => hd.ok x l (List.getElem?_eq_some_iff.1 hl).1 hl⟩, g58, rs, by simp, by simp [hd.len], fun x l r hl hr => ?_⟩)
   rw [List.getElem?_map, Option.map_eq_some_iff] at hr
   obtain ⟨p, hp, rfl⟩ := hr
   exact hd.row x l p (List.getElem?_eq_some_iff.1 hl).1 hl hp
/-- rot.From: the rotation, or a fault. -/
theorem Gs {N : Int} {es : List Pr} {ls : List (List Int)} {va v : Value} {w : World} (hg : PrV w va es) (hl : LsV w v ls) :
  Calls Tryz.prog 94 #[.agg #[.int .i64 N, va], v] w (Ret w [] fun r M =>
   (RotOk N es ls ∧ ∃ g rs, r = .tuple #[.slice (some ⟨g, 0, none⟩) N.toNat N.toNat, .int .i64 0, .int .i64 0] ∧ M = [blk g 44 (rowsV rs).toArray] ++ rowsC 3 rs ∧ RotR es ls (rs.map Prod.snd)) ∨
   (¬ RotOk N es ls ∧ M = [] ∧ ∃ x e, r = .tuple #[.slice none 0 0, .int .i64 x, .int .i64 e] ∧ e ≠ 0)) := by
 have hg0 := hg
 have hl0 := hl
 obtain ⟨A, cap, rfl, hr, hlc, hcm, hle⟩ := hg
 obtain ⟨B, capb, rfl, hrb, hlb, hcb, hleb⟩ := hl
 refine At (args := [_, _]) (L := []) Tryz.func94 rfl Tryz.ntmps94 rfl (Own.start _ _) ?_
 refine Zs ?_
 refine Zw (AR rfl rfl rfl) fun g2 => ?_
 refine Zw (AR rfl rfl rfl) fun g3 => ?_
 refine Za ?_
 refine Za ?_
 refine Za ?_
 refine Zx <| Zs ?_
 refine Zw (AO rfl ze59 rfl) fun g7 => ?_
 refine Zx <| DC.seq ?_
 refine DC.own (M := [blk g7 59 #[.slice none 0 0], blk g3 25 #[.slice B ls.length capb], blk g2 24 #[.int .i64 N, .slice A es.length cap]]) (fun w hw => hw) ?_
 refine DC.region ?_
 refine Zo (F3 rfl rfl rfl) ?_
 refine Seq.gen rfl rfl (BK en112 rfl rfl rfl (Lc := [blk g7 59 #[.slice none 0 0], blk g3 25 #[.slice B ls.length capb], blk g2 24 #[.int .i64 N, .slice A es.length cap]]) (F := []) (.refl _) (fun k hk => hk)
  (fun w' hw => FL (cap := #[.pointer (some ⟨g2, 0, none⟩), .pointer (some ⟨g3, 0, none⟩), .pointer (some ⟨g7, 0, none⟩)]) (C := fun M => RotOk N es ls ∧ ∃ (g : Nat) (rs : RL), M = [blk g7 59 #[.slice (some ⟨g, 0, none⟩) N.toNat N.toNat], blk g 44 (rowsV rs).toArray] ++ rowsC 3 rs ∧ RotR es ls (rs.map Prod.snd))
   (D := fun v e M => e ≠ 0 ∧ ¬ RotOk N es ls) en118 hw.self (fun w'' hw'' => Lg hg0 hl0 (by simpa using Own.frame (F := []) (by simpa using hw) hw'' (fun k hk => hk))))) ?_
 rintro v12 _ ⟨M, hC, rfl⟩
 have hD : (∃ v e, v12 = .tuple #[.int .i64 v, .int .i64 e] ∧ ((v = 0 ∧ e = 0 ∧ RotOk N es ls ∧ ∃ g rs, M = [blk g7 59 #[.slice (some ⟨g, 0, none⟩) N.toNat N.toNat], blk g 44 (rowsV rs).toArray] ++ rowsC 3 rs ∧ RotR es ls (rs.map Prod.snd)) ∨ (e ≠ 0 ∧ ¬ RotOk N es ls))) := by
  rcases hC with ⟨rfl, hC⟩ | ⟨v, e, rfl, hC⟩
  ·exact ⟨0, 0, rfl, .inl ⟨rfl, rfl, hC⟩⟩
  ·exact ⟨v, e, rfl, .inr hC⟩
 clear hC
 obtain ⟨xv, xe, rfl, hD⟩ := hD
 refine Zm ?_
 refine Ze ?_
 refine Ze ?_
 refine Za ?_
 refine Za ?_
 refine Zx <| DC.seq <| Zs ?_
 refine Zm ?_
 refine Zo (BB rfl rfl rfl) ?_
 refine Zx ?_
 refine Zd (fun c3 => ?_) fun c3 => ?_
 ·have hbad : xe ≠ 0 ∧ ¬ RotOk N es ls := by
   rcases hD with ⟨_, h0, _⟩ | h
   ·subst h0; simp at c3
   ·exact h
  refine Zs ?_
  refine Zm ?_
  refine Zm ?_
  refine Za ?_
  refine Za ?_
  refine Za ?_
  refine Zx <| DC.ret <| Aa ?_
  refine Fin.weak (E' := [(4, _), (5, _), (6, _)]) ⟨rfl, rfl, rfl, trivial⟩ .nil ?_
  refine Bu (.inl rfl) rfl rfl rfl rfl ?_
  exact .inr ⟨hbad.2, rfl, xv, xe, rfl, hbad.1⟩
 ·have h0 : xe = 0 := by simpa using c3
  obtain ⟨_, _, hok, g, rs, rfl, hrr⟩ := hD.resolve_right (fun h => h.1 h0)
  simp only [List.cons_append, List.nil_append, List.append_nil]
  refine DC.skip <| Fin.then <| Zs ?_
  refine Zl ag59 ?_
  refine Za ?_
  refine Za ?_
  refine Za ?_
  refine Zx <| DC.ret ?_
  refine Fin.weak (E' := [(4, _), (5, _), (6, _)]) ⟨rfl, rfl, rfl, trivial⟩ (.cons 1 rfl (Pick.all _)) ?_
  refine Fin.own (M := blk g 44 (rowsV rs).toArray :: rowsC 3 rs) (fun w hw => hw.sub (.cons_cons _ (.cons _ (List.Sublist.refl _)))) ?_
  refine Bu (.inl rfl) rfl rfl rfl rfl ?_
  exact .inl ⟨hok, g, rs, rfl, by simp, hrr⟩
def oneA (i : Nat) : Nat → Int := fun x => if x < i then 1 else 0
def idA (i : Nat) : Nat → Int := fun x => if x < i then (x : Int) else 0
theorem idA_next (i : Nat) (x : Nat) : upd (idA i) i (i : Int) x = idA (i + 1) x := by unfold upd idA; split <;> split <;> (try split) <;> omega
theorem oneA_next (i : Nat) (x : Nat) : upd (oneA i) i 1 x = oneA (i + 1) x := by unfold upd oneA; split <;> split <;> (try split) <;> omega
theorem New_sets {n : Nat} (hn : n ≤ 1048576) {w : World} : Calls Tryz.prog 175 #[.int .i64 n] w (Ret w [] fun r M =>
  ∃ gp g1 g2 sz, r = .tuple #[.pointer (some ⟨gp, 0, none⟩), .int .i64 0] ∧ sz.length = n ∧ M = setsL gp g1 g2 n (fun a => a) sz n) := by
 refine At (args := [_]) (L := []) Tryz.func175 rfl Tryz.ntmps175 rfl (Own.start _ _) ?_
 refine Zs ?_
 refine Za ?_
 refine Za ?_
 refine Zx <| DC.seq <| Zs ?_
 refine Zm ?_
 refine Zc ?_
 refine Zm ?_
 refine Seq.split 8 rfl (fun k1_2 => ?_) (fun k1_2 => ?_)
 ·refine Zk ?_
  refine Zk ?_
  refine Zt ?_
  refine Zx ?_
  refine AM rfl ?_
  refine Zs ?_
  refine Za ?_
  refine Za ?_
  refine Zx <| DC.ret <| Aa ?_
  refine AK (.inl rfl) rfl rfl rfl ?_
  simp at k1_2; omega
 ·refine Zm ?_
  refine Zo (BC rfl rfl rfl) ?_
  refine Zg ?_
  refine Zx ?_
  refine Zd (fun c1 => ?_) fun c1 => ?_
  ·refine Zs ?_
   refine Za ?_
   refine Za ?_
   refine Zx <| DC.ret <| Aa ?_
   refine AK (.inl rfl) rfl rfl rfl ?_
   simp at c1; omega
  ·refine DC.skip <| Fin.then <| DC.seq ?_
   refine AD (cl := [.q, .n, .q, .n, .q, .q, .n, .q]) (A := [0, 1, 0, 4, 0, 31, 63, 127]) (order := [0, 2, 4, 1, 3, 5, 6, 7]) [] mixed (by kernel_rfl) (fun w hw => hw.pick .nil) ?_
   refine Ym ?_
   refine Ym ?_
   refine Ym ?_
   refine Bt rfl rfl rfl rfl (B1 (k := n) rfl rfl rfl Tryz.underlying261 AL Dp BT rfl (by omega) (by omega) (B9 n)) fun g13 => ?_
   refine Bt rfl rfl rfl rfl (B1 (k := n) rfl rfl rfl Tryz.underlying44 AL Dp BT rfl (by omega) (by omega) (B9 n)) fun g15 => ?_
   refine Yo rfl (AB (cs := #[_, _, _]) rfl rfl bs263 rfl rfl) ?_
   refine Bt rfl rfl rfl rfl (AR rfl rfl rfl) fun g18 => ?_
   refine Yo rfl (AY rfl rfl) ?_
   refine Flow.end rfl ?_
   simp only [zq, zr]
   refine Fin.then <| DC.seq <| Zs ?_
   refine Zm ?_
   refine Zm ?_
   refine Zx <| DC.block ?_
   refine DC.loop (ι := Nat) (fun i => i ≤ n)
    (fun i => [(4, .pointer (some ⟨g18, 0, none⟩)), (19, .int .i64 n), (20, .int .i64 i)])
    (fun i => [blk g18 263 #[.slice (some ⟨g13, 0, none⟩) n n, .slice (some ⟨g15, 0, none⟩) n n, .int .i64 n], blk g15 3 (ints (tab n (oneA i))).toArray, blk g13 3 (ints (tab n (idA i))).toArray]) (fun i => n - i) 0 (Nat.zero_le _) ⟨rfl, rfl, rfl, trivial⟩
    (.cons 0 rfl (.cons' 0 rfl (Ct fun x _ => by simp [oneA]) (.cons' 0 rfl (Ct fun x _ => by simp [idA]) .nil))) ?_
   intro i hi
   refine Zs ?_
   refine Zc ?_
   refine Zx <| DC.seq ?_
   refine Zd (fun c5 => ?_) fun c5 => ?_
   ·have hlt : i < n := by simpa using c5
    refine DC.skip <| Fin.then <| DC.seq <| DC.block <| Zs ?_
    refine Zm ?_
    refine Za ?_
    refine Zx ?_
    refine AD (cl := [.q, .q, .q, .q, .q, .q, .q, .q, .q, .q, .q, .q, .g, .q, .g]) (A := [0, 1, 3, 7, 0, 0, 32, 96, 224, 0, 0, 1535, 3583, 8191, 16383]) (order := [0, 1, 2, 3, 4, 5, 6, 7, 8, 9, 10, 11, 12, 13, 14]) ([blk g18 263 #[.slice (some ⟨g13, 0, none⟩) n n, .slice (some ⟨g15, 0, none⟩) n n, .int .i64 n]]) mixed (by kernel_rfl) (fun w hw => hw.pick (.cons 0 rfl .nil)) ?_
    refine Ym ?_
    refine Yo rfl (AU rfl rfl) ?_
    refine Yf DW ?_
    refine Flow.old rfl rfl rfl (Ai rfl rfl HS (BM rfl)) ?_
    refine Ym ?_
    refine Ym ?_
    refine Yo rfl (AU rfl rfl) ?_
    refine Yf Jx ?_
    refine Flow.old rfl rfl rfl (Ai rfl rfl Bp (BM rfl)) ?_
    refine Ym ?_
    refine Ym ?_
    refine Yo rfl (Ah rfl rfl rfl Tryz.underlying261 AL (by omega) (by omega) (by first | exact AC _ _ | exact Bf _ _ _ | rfl)) ?_
    refine AX rfl rfl rfl rfl (AF (cs' := (ints (tab n (idA (i + 1)))).toArray) rfl rfl rfl AL rfl (by simp; omega) (by rw [BQ]; exact congrArg (fun l => (ints l).toArray) (CM fun x _ => idA_next i x))) (fun w hw => hw.pick (.cons 0 rfl .nil)) ?_
    refine Yo rfl (Ah rfl rfl rfl Tryz.underlying44 AL (by omega) (by omega) (by first | exact AC _ _ | exact Bf _ _ _ | rfl)) ?_
    refine AX rfl rfl rfl rfl (AF (cs' := (ints (tab n (oneA (i + 1)))).toArray) rfl rfl rfl AL rfl (by simp; omega) (by rw [BQ]; exact congrArg (fun l => (ints l).toArray) (CM fun x _ => oneA_next i x))) (fun w hw => hw.pick (.cons 0 rfl .nil)) ?_
    refine Flow.end rfl ?_
    simp only [zq, zr]
    refine Fin.inBlock <| Fin.then <| DC.region ?_
    refine Zp ?_
    refine Zm ?_
    refine Seq.nil ?_
    refine Fin.again (i + 1) (by omega) (by omega) ⟨rfl, rfl, rfl, trivial⟩ (Pick.all _)
   ·refine DC.exit <| Ad <| Ad <| Ag <| Fin.then <| Zs ?_
    refine Zm ?_
    refine Za ?_
    refine Za ?_
    refine Zx <| DC.ret ?_
    have hin : i = n := by simp at c5; omega
    subst hin
    refine Fin.weak (E' := [(2, _), (3, _)]) ⟨rfl, rfl, trivial⟩ (.cons 0 rfl (.cons 1 rfl (.cons 0 rfl .nil))) ?_
    refine AK (.inl rfl) rfl rfl rfl ?_
    refine ⟨g18, g13, g15, tab i (oneA i), rfl, by simp, ?_⟩
    unfold setsL
    rw [Ct (f := idA i) (g := nat fun a => a) fun x hx => by unfold idA nat; rw [if_pos hx]]
/-- Numbers of the sets. -/
structure NumI where
 a : Nat
 c : Nat
 p : Nat → Nat
 f : Nat → Int
def Labels (r : Nat → Nat) (a c : Nat) (f : Nat → Int) : Prop :=
 (∀ x, x < a → 0 ≤ f x ∧ f x < c) ∧ (∀ x y, x < a → y < a → (f x = f y ↔ r x = r y)) ∧ (c : Int) = ((List.range a).countP fun x => r x = x) ∧ c ≤ a
theorem H8 {gp g1 g2 n : Nat} {p : Nat → Nat} {sz : List Int} {c : Int} {w : World} (hO : Own w (idsOf (setsL gp g1 g2 n p sz c)) w (setsL gp g1 g2 n p sz c)) (hp : Down p) (hn : n ≤ 1048576) :
  Calls Tryz.prog 177 #[.pointer (some ⟨gp, 0, none⟩)] w (Ret w (idsOf (setsL gp g1 g2 n p sz c)) fun r M =>
   ∃ g k f, r = .tuple #[.slice (some ⟨g, 0, none⟩) n n, .int .i64 (k : Nat)] ∧ Labels (rt p) n k f ∧ M = [blk g 3 (ints (tab n f)).toArray]) := by
 refine At (args := [_]) Tryz.func177 rfl Tryz.ntmps177 rfl hO ?_
 unfold setsL
 refine Zs ?_
 refine Za ?_
 refine Za ?_
 refine Zx <| Zs ?_
 refine Zm ?_
 refine Zo (AU rfl rfl) ?_
 refine Zf DW ?_
 refine Zl HS ?_
 refine Zn Tryz.underlying261 ?_
 refine Zw (B1 (k := n) rfl rfl rfl Tryz.underlying44 AL Dp BT rfl (by omega) (by omega) (B9 n)) fun g13 => ?_
 refine Za ?_
 refine Zx <| Zs ?_
 refine Za ?_
 refine Zx <| DC.seq <| Zs ?_
 refine Zm ?_
 refine Zn Tryz.underlying44 ?_
 refine Zm ?_
 refine Zx <| DC.block ?_
 refine DC.loop (ι := NumI) (fun j => j.a ≤ n ∧ Down j.p ∧ (∀ x, rt j.p x = rt p x) ∧ Labels (rt p) j.a j.c j.f)
  (fun j => [(0, .pointer (some ⟨gp, 0, none⟩)), (4, .slice (some ⟨g13, 0, none⟩) n n), (5, .int .i64 j.c), (14, .slice (some ⟨g13, 0, none⟩) n n), (15, .int .i64 n), (16, .int .i64 j.a)])
  (fun j => [blk g13 3 (ints (tab n j.f)).toArray, blk gp 263 #[.slice (some ⟨g1, 0, none⟩) n n, .slice (some ⟨g2, 0, none⟩) n n, .int .i64 c], blk g1 3 (ints (tab n (nat j.p))).toArray]) (fun j => n - j.a) ⟨0, 0, p, fun _ => 0⟩
  ⟨Nat.zero_le _, hp, fun _ => rfl, by simp, by simp, by simp, Nat.le_refl _⟩ ⟨rfl, rfl, rfl, rfl, rfl, rfl, trivial⟩ (.cons 0 rfl (.cons 0 rfl (.cons 0 rfl .nil))) ?_
 rintro ⟨a, k, q, f⟩ ⟨ha, hq, hqr, hL1, hL2, hL3, hL4⟩
 dsimp only at ha hq hqr hL1 hL2 hL3 hL4 ⊢
 refine Zs ?_
 refine Zc ?_
 refine Zx <| DC.seq ?_
 refine Zd (fun c4 => ?_) fun c4 => ?_
 ·have hlt : a < n := by simpa using c4
  refine DC.skip <| Fin.then <| DC.seq <| DC.block <| Zs ?_
  refine Zm ?_
  refine Za ?_
  refine Zx <| DC.seq <| Zs ?_
  refine Zm ?_
  refine Zo (AU rfl rfl) ?_
  refine Zf DW ?_
  refine Zl HS ?_
  refine Zm ?_
  refine Seq.gen rfl rfl (BK en191 rfl rfl rfl (Lc := [blk g1 3 (ints (tab n (nat q))).toArray]) (F := [blk g13 3 (ints (tab n f)).toArray, blk gp 263 #[.slice (some ⟨g1, 0, none⟩) n n, .slice (some ⟨g2, 0, none⟩) n n, .int .i64 c]]) (List.perm_append_comm (l₁ := [_, _]) (l₂ := [_])) (fun k hk => by simpa [blk] using hk) (fun w hw => E1 (hw.pick (.cons 2 rfl .nil)).self hq hlt hn)) ?_
  rintro _ _ ⟨_, ⟨rfl, q2, hq2, hqr2, rfl⟩, rfl⟩
  simp only [List.cons_append, List.nil_append]
  rw [hqr a]
  have hle := Ka p a
  have hidem : rt p (rt p a) = rt p a := rt_idem hp a
  obtain ⟨r, hr⟩ : ∃ r, r = rt p a := ⟨_, rfl⟩
  rw [← hr] at hle hidem ⊢
  have hcnt : ∀ (b : Bool), decide (rt p a = a) = b → (List.range (a + 1)).countP (fun x => rt p x = x) = (List.range a).countP (fun x => rt p x = x) + (if b then 1 else 0) := by
   intro b hb
   rw [List.range_succ, List.countP_append]
   subst hb
   simp [List.countP_cons]
  refine Za ?_
  refine Zx <| Zs ?_
  refine Zm ?_
  refine Zm ?_
  refine Zc ?_
  refine Zx ?_
  refine Zd (fun c7 => ?_) fun c7 => ?_
  ·have hra : r < a := by simpa using c7
   refine Zs ?_
   refine Zm ?_
   refine Zm ?_
   refine Zm ?_
   refine Zm ?_
   refine Zi Tryz.underlying44 AL ?_
   refine Zu (Ai rfl rfl AI (Be (Bs (by omega)))) ?_
   refine Zi Tryz.underlying44 AL ?_
   refine Zy (AF (cs' := (ints (tab n (upd f a (f r)))).toArray) rfl rfl rfl AL rfl (by simp; omega) BQ) ?_
   refine Zx <| DC.exit <| Ad <| Ag <| Fin.then <| DC.region ?_
   refine Zp ?_
   refine Zm ?_
   refine Seq.nil ?_
   refine Fin.again (NumI.mk (a + 1) k q2 (upd f a (f r))) (by dsimp only; omega) ⟨by dsimp only; omega, hq2, fun x => by rw [hqr2, hqr], ?_, ?_, ?_, by dsimp only; omega⟩ ⟨rfl, rfl, rfl, rfl, rfl, rfl, trivial⟩ (.cons 1 rfl (.cons 1 rfl (.cons 0 rfl .nil)))
   ·intro x hx
    dsimp only at hx ⊢
    unfold upd
    split
    ·exact hL1 r hra
    ·exact hL1 x (by omega)
   ·intro x y hx hy
    dsimp only at hx hy ⊢
    unfold upd
    by_cases e1 : x = a
    ·by_cases e2 : y = a
     ·subst e1 e2; simp
     ·rw [if_pos e1, if_neg e2, hL2 r y hra (by omega), hidem, e1, ← hr]
    ·by_cases e2 : y = a
     ·rw [if_neg e1, if_pos e2, hL2 x r (by omega) hra, hidem, e2, ← hr]
     ·rw [if_neg e1, if_neg e2]; exact hL2 x y (by omega) (by omega)
   ·dsimp only
    rw [hcnt false (by simp; omega)]; simpa using hL3
  ·have hra : r = a := by simp at c7; omega
   subst hra
   refine DC.skip <| Fin.then <| Zs ?_
   refine Zm ?_
   refine Zm ?_
   refine Zm ?_
   refine Zi Tryz.underlying44 AL ?_
   refine Zy (AF (cs' := (ints (tab n (upd f r (k : Int)))).toArray) rfl rfl rfl AL rfl (by simp; omega) BQ) ?_
   refine Zx <| DC.region ?_
   refine Zm ?_
   refine Zp ?_
   refine Za ?_
   refine Seq.nil <| Fin.inBlock <| Fin.then <| DC.region ?_
   refine Zp ?_
   refine Zm ?_
   refine Seq.nil ?_
   refine Fin.again (NumI.mk (r + 1) (k + 1) q2 (upd f r (k : Int))) (by dsimp only; omega) ⟨by dsimp only; omega, hq2, fun x => by rw [hqr2, hqr], ?_, ?_, ?_, by dsimp only; omega⟩ ⟨rfl, rfl, rfl, rfl, rfl, rfl, trivial⟩ (.cons 1 rfl (.cons 1 rfl (.cons 0 rfl .nil)))
   ·intro x hx
    dsimp only at hx ⊢
    unfold upd
    split
    ·omega
    ·have := hL1 x (by omega); omega
   ·intro x y hx hy
    dsimp only at hx hy ⊢
    unfold upd
    by_cases e1 : x = r
    ·by_cases e2 : y = r
     ·subst e1 e2; simp
     ·rw [if_pos e1, if_neg e2, e1, ← hr]
      have h1 := hL1 y (by omega)
      have h2 := Ka p y
      constructor
      ·intro h; omega
      ·intro h; omega
    ·by_cases e2 : y = r
     ·rw [if_neg e1, if_pos e2, e2, ← hr]
      have h1 := hL1 x (by omega)
      have h2 := Ka p x
      constructor
      ·intro h; omega
      ·intro h; omega
     ·rw [if_neg e1, if_neg e2]; exact hL2 x y (by omega) (by omega)
   ·dsimp only
    rw [hcnt true (by simp; omega)]; simp at hL3 ⊢; omega
 ·refine DC.exit <| Ad <| Ad <| Ag <| Fin.then <| Zs ?_
  refine Zm ?_
  refine Zm ?_
  refine Za ?_
  refine Za ?_
  refine Zx <| DC.ret ?_
  have han : a = n := by simp at c4; omega
  subst han
  refine Fin.weak (E' := [(2, _), (3, _)]) ⟨rfl, rfl, trivial⟩ (.cons 0 rfl .nil) ?_
  refine AK (.inl rfl) rfl rfl rfl ?_
  exact ⟨g13, k, f, rfl, ⟨hL1, hL2, hL3, hL4⟩, rfl⟩
structure OfI where
 i : Nat
 p : Nat → Nat
 sz : List Int
 c : Int
theorem Of_calls {n : Nat} {es : List Pr} {va : Value} {w : World} (hg : PrV w va es) (hV : Vld n es) :
  Calls Tryz.prog 153 #[.agg #[.int .i64 n, va]] w (Ret w [] fun r M =>
   ∃ g k f q, r = .tuple #[.slice (some ⟨g, 0, none⟩) n n, .int .i64 (k : Nat), .int .i64 0] ∧ Down q ∧ Parts es (rt q) ∧ Labels (rt q) n k f ∧ M = [blk g 3 (ints (tab n f)).toArray]) := by
 have hg0 := hg
 obtain ⟨A, cap, rfl, hr, hlc, hcm, hle⟩ := hg
 have hN1 : n ≤ 1048576 := by have := hV.hi; omega
 refine At (args := [_]) (L := []) Tryz.func153 rfl Tryz.ntmps153 rfl (Own.start _ _) ?_
 refine Zs ?_
 refine Zw (AR rfl rfl rfl) fun g1 => ?_
 refine Za ?_
 refine Za ?_
 refine Za ?_
 refine Zx <| DC.seq <| Zs ?_
 refine Zu (Aw (vs := [_, _]) rfl rfl Bo Bh rfl (Am rfl)) ?_
 refine Seq.rel0 rfl rfl (Ao L9 rfl rfl rfl (fun w' hw => CA (hg0.keep0 hw))) ?_
 rintro _ ⟨b, rfl, hb⟩
 refine Zo (Bg rfl rfl) ?_
 refine Zx ?_
 refine Zd (fun c1 => ?_) fun c1 => ?_
 ·refine Zs ?_
  refine Za ?_
  refine Za ?_
  refine Za ?_
  refine Zx <| DC.ret <| Aa ?_
  refine Bu (.inl rfl) rfl rfl rfl rfl ?_
  exact absurd (hb.2 hV) (by simpa using c1)
 ·refine DC.skip <| Fin.then <| Zs ?_
  refine Zf Bz ?_
  refine Zl AI ?_
  refine Seq.rel rfl rfl (Ao en175 rfl rfl rfl (fun w' hw => New_sets hN1)) ?_
  rintro _ _ ⟨gp, ga, gb, sz, rfl, hsz, rfl⟩
  simp only [setsL, List.cons_append, List.nil_append]
  refine Zm ?_
  refine Ze ?_
  refine Ze ?_
  refine Za ?_
  refine Za ?_
  refine Zx <| DC.seq <| Zs ?_
  refine Zf AS ?_
  refine Zl Bj ?_
  refine Zn Tryz.underlying22 ?_
  refine Zm ?_
  refine Zx <| DC.block ?_
  refine DC.loop (ι := OfI) (fun j => j.i ≤ es.length ∧ Down j.p ∧ j.sz.length = n ∧ Parts (es.take j.i) (rt j.p))
   (fun j => [(5, .pointer (some ⟨gp, 0, none⟩)), (21, .slice A es.length cap), (22, .int .i64 es.length), (23, .int .i64 j.i)])
   (fun j => setsL gp ga gb n j.p j.sz j.c) (fun j => es.length - j.i) ⟨0, fun a => a, sz, n⟩ ⟨Nat.zero_le _, fun _ => Nat.le_refl _, hsz, Gm (fun x => (Fm (p := fun a => a) rfl).symm) parts_nil⟩ ⟨rfl, rfl, rfl, rfl, trivial⟩ (.cons 0 rfl (.cons 0 rfl (.cons 0 rfl .nil))) ?_
  rintro ⟨i, p, sz', c⟩ ⟨hi, hp, hs, hP⟩
  dsimp only at hi hp hs hP ⊢
  refine Zs ?_
  refine Zc ?_
  refine Zx <| DC.seq ?_
  refine Zd (fun c5 => ?_) fun c5 => ?_
  ·have hlt : i < es.length := by simpa using c5
   obtain ⟨e, he⟩ : ∃ e, es[i]? = some e := ⟨_, List.getElem?_eq_getElem hlt⟩
   obtain ⟨ad, rfl, hU, hVe⟩ := hr.pair he
   have ho := hV.ok i e he
   obtain ⟨u, hu⟩ := Int.eq_ofNat_of_zero_le ho.lo
   obtain ⟨v, hv⟩ := Int.eq_ofNat_of_zero_le (show 0 ≤ e.2 by have := ho.lo; have := ho.lt; omega)
   obtain rfl : e = ((u : Int), (v : Int)) := Prod.ext hu hv
   clear hu hv
   have huv : u < v := by have := ho.lt; simp at this; exact this
   have hvN : v < n := by have := ho.hi; simp at this; exact this
   replace hU : w.cell? (ad.add (i * 2)) = some (.int .i64 (u : Int)) := hU
   replace hVe : w.cell? (ad.add (i * 2 + 1)) = some (.int .i64 (v : Int)) := hVe
   refine DC.skip <| Fin.then <| DC.seq <| DC.block <| Zs ?_
   refine Zo (AE rfl rfl rfl Tryz.underlying22 AW (by omega) (by omega) (by first | exact AC _ _ | exact Bf _ _ _ | rfl)) ?_
   refine Zu (Aw (vs := [_, _]) rfl rfl Cr AW rfl (Ck hU hVe (by simp))) ?_
   refine Zw (AO rfl CK rfl) fun g8 => ?_
   refine Zy (Az (cs' := #[_, _]) rfl rfl rfl AW rfl (Nat.le_of_ble_eq_true rfl) rfl) ?_
   refine Zx <| DC.region ?_
   refine Zm ?_
   refine Zf AZ ?_
   refine Zl AI ?_
   refine Zf Bi ?_
   refine Zl AI ?_
   refine Seq.gen rfl rfl (BK en176 rfl rfl rfl (Lc := setsL gp ga gb n p sz' c) (F := [blk g8 43 #[.int .i64 u, .int .i64 v]]) (List.perm_append_comm (l₁ := [_]) (l₂ := setsL gp ga gb n p sz' c)) (fun k hk => hk) (fun w' hw => Join_calls (hw.sub (List.sublist_cons_self ..)).self hp (by omega) hvN hN1 hs hP)) ?_
   rintro _ _ ⟨_, ⟨q, sz2, c2, hq, hs2, hP2, rfl⟩, rfl⟩
   refine Seq.nil <| Fin.inBlock <| Fin.then <| DC.region ?_
   refine Zp ?_
   refine Zm ?_
   refine Seq.nil ?_
   refine Fin.again (OfI.mk (i + 1) q sz2 c2) (by dsimp only; omega) ⟨by dsimp only; omega, hq, hs2, ?_⟩ ⟨rfl, rfl, rfl, rfl, trivial⟩ (.cons 0 rfl (.cons 0 rfl (.cons 0 rfl .nil)))
   dsimp only
   rw [List.take_add_one, he]
   exact hP2
  ·refine DC.exit <| Ad <| Ad <| Ag <| Fin.then <| DC.seq ?_
   have hie : i = es.length := by simp at c5; omega
   subst hie
   rw [List.take_length] at hP
   refine DC.region ?_
   refine Zm ?_
   refine Seq.gen rfl rfl (BK en177 rfl rfl rfl (Lc := setsL gp ga gb n p sz' c) (F := []) (by rw [List.append_nil]) (fun k hk => hk) (fun w' hw => H8 hw.self hp hN1)) ?_
   rintro _ _ ⟨_, ⟨g, k, f, rfl, hL, rfl⟩, rfl⟩
   refine Zm ?_
   refine Ze ?_
   refine Ze ?_
   refine Za ?_
   refine Za ?_
   refine Zx <| Zs ?_
   refine Zm ?_
   refine Zm ?_
   refine Za ?_
   refine Za ?_
   refine Za ?_
   refine Zx <| DC.ret ?_
   refine Bu (.inl rfl) rfl rfl rfl rfl ?_
   exact ⟨g, k, f, p, rfl, hp, hP, hL, rfl⟩
theorem frs_app : ∀ (a b : List Pr), frs (a ++ b) = frs a ++ frs b
 | [], b => rfl
 | e :: r, b => by simp [frs, frs_app r b]
structure BegI where
 i : Nat
 v : Value
theorem JP {N : Int} {es : List Pr} {va : Value} {w : World} (hg : PrV w va es) (hl : es.length ≤ 4194304) :
  Calls Tryz.prog 88 #[.agg #[.int .i64 N, va]] w (Ret w [] fun v M => M = [slc v 3 1 (ints (frs es))]) := by
 obtain ⟨A, cap, rfl, hr, hlc, hcm, hle⟩ := hg
 refine At (args := [_]) (L := []) Tryz.func88 rfl Tryz.ntmps88 rfl (Own.start _ _) ?_
 refine Zs ?_
 refine Zw (AR rfl rfl rfl) fun g1 => ?_
 refine Za ?_
 refine Zx <| Zs ?_
 refine Zf AS ?_
 refine Zl Bj ?_
 refine Zn Tryz.underlying22 ?_
 refine Zo (Ci rfl rfl rfl (by omega)) ?_
 refine Zw (n_make2 (l := 0) (k := 2 * es.length) rfl rfl rfl Tryz.underlying44 AL Dp BT rfl (by omega) (by omega) (by omega) (by omega) (Fw _ rfl _)) fun g10 => ?_
 refine Za ?_
 refine Zx <| DC.seq <| Zs ?_
 refine Zf AS ?_
 refine Zl Bj ?_
 refine Zn Tryz.underlying22 ?_
 refine Zm ?_
 refine Zx <| DC.block ?_
 refine DC.weak (E' := [(3, .slice (some ⟨g10, 0, none⟩) 0 (2 * es.length)), (12, .slice A es.length cap), (13, .int .i64 es.length), (14, .int .i64 0)]) ⟨rfl, rfl, rfl, rfl, trivial⟩ (.cons 0 rfl .nil) ?_
 refine DC.own (fun w hw => BY (vs := []) (m := 1) (len := 0) (cap := 2 * es.length) rfl (by decide) (by omega) (by omega) (by simp) rfl hw) ?_
 refine DC.loop (ι := BegI) (fun j => j.i ≤ es.length)
  (fun j => [(3, j.v), (12, .slice A es.length cap), (13, .int .i64 es.length), (14, .int .i64 j.i)])
  (fun j => [slc j.v 3 1 (ints (frs (es.take j.i)))]) (fun j => es.length - j.i) ⟨0, _⟩ (Nat.zero_le _) ⟨rfl, rfl, rfl, rfl, trivial⟩ (.cons 0 rfl .nil) ?_
 rintro ⟨i, v⟩ hi
 dsimp only at hi ⊢
 refine Zs ?_
 refine Zc ?_
 refine Zx <| DC.seq ?_
 refine Zd (fun c3 => ?_) fun c3 => ?_
 ·have hlt : i < es.length := by simpa using c3
  obtain ⟨e, he⟩ : ∃ e, es[i]? = some e := ⟨_, List.getElem?_eq_getElem hlt⟩
  obtain ⟨ad, rfl, hU, hV⟩ := hr.pair he
  refine DC.skip <| Fin.then <| DC.seq <| DC.block <| Zs ?_
  refine Zo (AE rfl rfl rfl Tryz.underlying22 AW (by omega) (by omega) (by first | exact AC _ _ | exact Bf _ _ _ | rfl)) ?_
  refine Zu (Aw (vs := [_, _]) rfl rfl Cr AW rfl (Ck hU hV (by simp))) ?_
  refine Zw (AO rfl CK rfl) fun g5 => ?_
  refine Zy (Az (cs' := #[_, _]) rfl rfl rfl AW rfl (Nat.le_of_ble_eq_true rfl) rfl) ?_
  refine Zx <| DC.region ?_
  refine Zm ?_
  refine Zf AZ ?_
  refine Zl AI ?_
  refine Zf Bi ?_
  refine Zl AI ?_
  refine Zw (AP (cs := #[_, _]) rfl rfl Tryz.underlying44 AL BT rfl (by decide) (by decide) rfl rfl) fun g23 => ?_
  refine Seq.gen rfl rfl (AG rfl rfl rfl Tryz.underlying44 AL Dp BT rfl (by decide) (by decide) (fun w hw => hw.pick (.cons 2 rfl .nil)) (.inl ⟨_, _, rfl, Am rfl⟩) rfl (Bm [e.1, e.2] []) (by simp [BH]; omega)) ?_
  rintro v24 _ rfl
  refine Za ?_
  refine Seq.nil <| Fin.inBlock <| Fin.then <| DC.region ?_
  refine Zp ?_
  refine Zm ?_
  refine Seq.nil ?_
  refine Fin.again ⟨i + 1, v24⟩ (by dsimp only; omega) (by dsimp only; omega) ⟨rfl, rfl, rfl, rfl, trivial⟩ (.cons' 0 rfl (by dsimp only; rw [List.take_add_one, he]; simp [frs_app, frs, ints]) .nil)
 ·refine DC.exit <| Ad <| Ad <| Ag <| Fin.then <| Zs ?_
  refine Zm ?_
  refine Za ?_
  refine Zx <| DC.ret ?_
  refine Ak (.inl rfl) rfl rfl ?_
  have hin : i = es.length := by simp at c3; omega
  subst hin
  rw [List.take_length]
/-! ### a row of bools -/
def bls (n : Nat) (f : Nat → Bool) : List Value := (List.range n).map fun i => .bool (f i)
@[simp] theorem bls_length (n : Nat) (f : Nat → Bool) : (bls n f).length = n := by simp [bls]
theorem D5 {n i : Nat} (f : Nat → Bool) (h : i < n) : (bls n f).toArray[i]? = some (.bool (f i)) := by simp [bls, h]
def updB (f : Nat → Bool) (a : Nat) (b : Bool) : Nat → Bool := fun i => if i = a then b else f i
theorem D4 {n a : Nat} (f : Nat → Bool) (b : Bool) : (bls n f).toArray.setIfInBounds a (.bool b) = (bls n (updB f a b)).toArray := by
 rw [List.setIfInBounds_toArray]
 congr 1
 apply List.ext_getElem?
 intro q
 rw [List.getElem?_set]
 by_cases hq : a = q
 ·subst hq
  by_cases h : a < n
  ·simp [bls, h, updB]
  ·simp [bls, h]
 ·rw [if_neg hq]
  by_cases h : q < n
  ·simp [bls, h, updB, Ne.symm hq]
  ·simp [bls, h]
theorem DA (n : Nat) : madeCells (Value.bool false).cells (n * 1) = (bls n fun _ => false).toArray := by
 rw [Fw _ rfl]
 congr 1
 simp [bls, List.map_const']
structure ChkI where
 v : Nat
 f : Nat → Bool
structure ChkD (N : Int) (es : List Pr) (rs : List (List Int)) (v : Nat) (f : Nat → Bool) : Prop where
 ok : ∀ (x : Nat) l, x < v → rs[x]? = some l → (∀ h, h ∈ l → 0 ≤ h ∧ h < es.length * 2 ∧ fromV es h = x) ∧ l.Nodup ∧ (l.length : Int) = cnt es x
 seen : ∀ h, f h = true ↔ ∃ (x : Nat) (l : List Int), x < v ∧ rs[x]? = some l ∧ (h : Int) ∈ l
structure ChkP (es : List Pr) (rs : List (List Int)) (v : Nat) (l : List Int) (j : ChkI) : Prop where
 le : j.v ≤ l.length
 fr : ∀ h, h ∈ l.take j.v → 0 ≤ h ∧ h < es.length * 2 ∧ fromV es h = v
 nd : (l.take j.v).Nodup
 seen : ∀ h, j.f h = true ↔ (∃ (x : Nat) (l' : List Int), x < v ∧ rs[x]? = some l' ∧ (h : Int) ∈ l') ∨ (h : Int) ∈ l.take j.v
theorem K1 {N : Int} {es : List Pr} {rs : List (List Int)} {va v : Value} {w : World} (hg : PrV w va es) (hl : LsV w v rs) :
  Calls Tryz.prog 114 #[.agg #[.int .i64 N, va], v] w (RetP w [] (fun _ M => RotL N es rs ∧ M = []) (fun pv M => ∃ x e, pv = flt x e ∧ (e ≠ 0 ∧ ¬ RotL N es rs))) := by
 have hg0 := hg
 obtain ⟨A, cap, rfl, hr, hlc, hcm, hle⟩ := hg
 obtain ⟨B, capb, rfl, hrb, hlb, hcb, hleb⟩ := hl
 refine Da (K := []) (args := [_, _]) (L := []) Tryz.func114 rfl Tryz.ntmps114 rfl (Own.start _ _) ?_
 refine Zs ?_
 refine Zw (AR rfl rfl rfl) fun g2 => ?_
 refine Zx <| Zs ?_
 refine Zu (Aw (vs := [_, _]) rfl rfl Bo Bh rfl (Am rfl)) ?_
 refine Seq.rel0 rfl rfl (Ao L9 rfl rfl rfl (fun w' hw => CA (hg0.keep0 hw))) ?_
 rintro _ ⟨b, rfl, hb⟩
 refine BO rfl rfl Ee rfl rfl rfl (fun w' hw => BN b 0 1 w') ?_ ?_
 ·rintro _ ⟨rfl, hbf⟩
  refine Ay <| ?_
  exact Bn ⟨0, 1, rfl, by decide, fun h => by have := hb.2 h.1; rw [hbf] at this; cases this⟩
 rintro _ hbt
 have hV : Vld N es := hb.1 hbt
 refine Zx <| Zs ?_
 refine Zm ?_
 refine Zn Tryz.underlying59 ?_
 refine Zf Bz ?_
 refine Zl AI ?_
 refine Zo (AN rfl rfl rfl) ?_
 refine BO rfl rfl Ee rfl rfl rfl (fun w' hw => BN _ 0 110 w') ?_ ?_
 ·rintro _ ⟨rfl, hbf⟩
  refine Ay <| ?_
  exact Bn ⟨0, 110, rfl, by decide, fun h => by simp at hbf; exact hbf h.2.1⟩
 rintro _ hbN
 have hN : (rs.length : Int) = N := by simpa using hbN
 subst hN
 have hN1 := hV.hi
 have hfew := hV.few
 refine Zx <| Zs ?_
 refine Zu (Aw (vs := [_, _]) rfl rfl Bo Bh rfl (Am rfl)) ?_
 refine Seq.rel rfl rfl (Ao en120 rfl rfl rfl (fun w' hw => EV (hg0.keep0 hw))) ?_
 intro v23 L23 hC23
 obtain ⟨_, gd, rfl, rfl⟩ := hC23.resolve_right (fun h => h.1 hV)
 simp only [Int.toNat_natCast, List.cons_append, List.nil_append]
 refine Zm ?_
 refine Ze ?_
 refine Ze ?_
 refine Za ?_
 refine Za ?_
 refine Zx <| Zs ?_
 refine Zu (Aw (vs := [_, _]) rfl rfl Bo Bh rfl (Am rfl)) ?_
 refine Seq.rel rfl rfl (Ao en88 rfl rfl rfl (fun w' hw => JP (hg0.keep0 hw) hfew)) ?_
 rintro v27 _ rfl
 simp only [List.cons_append, List.nil_append]
 refine Za ?_
 refine Zx <| DC.seq ?_
 refine DC.slcs (i := 0) rfl (by rw [BH]; omega) ?_
 rintro A6 c6 rfl hA6
 rw [BH]
 refine DC.region ?_
 refine Zm ?_
 refine Zn Tryz.underlying44 ?_
 refine Zw (B1 (k := es.length * 2) rfl rfl rfl Tryz.underlying188 FS by4 ze4 (by omega) (by omega) (by omega) (DA _)) fun g30 => ?_
 refine Za ?_
 refine Zx <| Zs ?_
 refine Zm ?_
 refine Zn Tryz.underlying59 ?_
 refine Zm ?_
 refine Zx <| DC.block ?_
 refine DC.loop (ι := ChkI) (fun j => j.v ≤ rs.length ∧ ChkD rs.length es rs j.v j.f)
  (fun j => [(4, .slice (some ⟨gd, 0, none⟩) rs.length rs.length), (6, .slice A6 (es.length * 2) c6), (7, .slice (some ⟨g30, 0, none⟩) (es.length * 2) (es.length * 2)), (31, .slice B rs.length capb), (32, .int .i64 rs.length), (33, .int .i64 j.v)])
  (fun j => [blk g30 4 (bls (es.length * 2) j.f).toArray, slc (.slice A6 (es.length * 2) c6) 3 1 (ints (frs es)), blk gd 3 (ints (tab rs.length (fun v => cnt es v))).toArray]) (fun j => rs.length - j.v) ⟨0, fun _ => false⟩
  ⟨Nat.zero_le _, fun _ _ h => absurd h (Nat.not_lt_zero _), fun h => ⟨fun e => by simp at e, fun ⟨x, l, h, _⟩ => absurd h (Nat.not_lt_zero _)⟩⟩ ⟨rfl, rfl, rfl, rfl, rfl, rfl, trivial⟩ (.cons 0 rfl (.cons 0 rfl (.cons 0 rfl .nil))) ?_
 rintro ⟨v, f⟩ ⟨hv, hd⟩
 dsimp only at hv hd ⊢
 refine Zs ?_
 refine Zc ?_
 refine Zx <| DC.seq ?_
 refine Zd (fun c7 => ?_) fun c7 => ?_
 ·have hvlt : v < rs.length := by simpa using c7
  obtain ⟨l, hl⟩ : ∃ l, rs[v]? = some l := ⟨_, List.getElem?_eq_getElem hvlt⟩
  obtain ⟨adb, lv, rfl, hc, Al, capl, rfl, hrl, hl1, hl2, hl3⟩ := hrb v l hl
  refine DC.skip <| Fin.then <| DC.seq <| DC.block <| Zs ?_
  refine Zm ?_
  refine Zi Tryz.underlying59 Br ?_
  refine Zu (Ai rfl rfl Bp (Ar hc)) ?_
  refine Za ?_
  refine Za ?_
  refine Zx <| DC.seq <| Zs ?_
  refine Zm ?_
  refine Zn Tryz.underlying44 ?_
  refine Zm ?_
  refine Zx <| DC.block ?_
  refine DC.loop (ι := ChkI) (fun j => ChkP es rs v l j)
   (fun j => [(4, .slice (some ⟨gd, 0, none⟩) rs.length rs.length), (6, .slice A6 (es.length * 2) c6), (7, .slice (some ⟨g30, 0, none⟩) (es.length * 2) (es.length * 2)), (8, .int .i64 v), (9, .slice Al l.length capl), (31, .slice (some adb) rs.length capb), (32, .int .i64 rs.length), (33, .int .i64 v), (38, .slice Al l.length capl), (39, .int .i64 l.length), (40, .int .i64 j.v)])
   (fun j => [blk g30 4 (bls (es.length * 2) j.f).toArray, slc (.slice A6 (es.length * 2) c6) 3 1 (ints (frs es)), blk gd 3 (ints (tab rs.length (fun v => cnt es v))).toArray]) (fun j => l.length - j.v) ⟨0, f⟩
   ⟨Nat.zero_le _, by simp, by simp, fun h => by rw [hd.seen h]; simp⟩ ⟨rfl, rfl, rfl, rfl, rfl, rfl, rfl, rfl, rfl, rfl, rfl, trivial⟩ (Pick.all _) ?_
  rintro ⟨k, f2⟩ hP
  have hPle := hP.le
  have hPse := hP.seen
  dsimp only at hPle hPse ⊢
  refine Zs ?_
  refine Zc ?_
  refine Zx <| DC.seq ?_
  refine Zd (fun c10 => ?_) fun c10 => ?_
  ·have hklt : k < l.length := by simpa using c10
   obtain ⟨h, hh⟩ : ∃ h, l[k]? = some h := ⟨_, List.getElem?_eq_getElem hklt⟩
   obtain ⟨adl, rfl, hch⟩ := hrl.int hh
   have hmem := List.mem_of_getElem? hh
   refine DC.skip <| Fin.then <| DC.seq <| DC.block <| Zs ?_
   refine Zi Tryz.underlying44 AL ?_
   refine Zu (Ai rfl rfl AI (Ar hch)) ?_
   refine Za ?_
   refine Zx <| Zs ?_
   refine Zm ?_
   refine Zo (Cj rfl rfl rfl) ?_
   refine Zm ?_
   refine Seq.split 46 rfl (fun k12_2 => ?_) (fun k12_2 => ?_)
   ·refine Zm ?_
    refine Zm ?_
    refine Zn Tryz.underlying44 ?_
    refine Zc ?_
    refine Zt ?_
    refine Zm ?_
    refine Seq.split 52 rfl (fun k12_8 => ?_) (fun k12_8 => ?_)
    ·have hh0 : 0 ≤ h := by simpa using k12_2
     have hh1 : h < es.length * 2 := by simp at k12_8; omega
     obtain ⟨x6, hx6, hfv⟩ := FD es hh0 hh1
     obtain ⟨ad6, rfl⟩ := hA6 (fun e => by rw [← List.length_eq_zero_iff, BH] at e; omega)
     refine Zm ?_
     refine Zm ?_
     refine Zi Tryz.underlying44 AL ?_
     refine Zu (Ai rfl rfl AI (BJ (i := 1) rfl hx6 (by rw [BH]; omega))) ?_
     refine Zm ?_
     refine Zo (AN rfl rfl rfl) ?_
     refine Zt ?_
     refine Zm ?_
     refine BO rfl rfl Ee rfl rfl rfl (fun w' hw => BN _ v 111 w') ?_ ?_
     ·rintro _ ⟨rfl, hbf⟩
      refine Ay <| AA <| Ay <| Ay <| AA <| Ay <| AA <| Ay <| Ay <| AA <| ?_
      refine Bn ⟨v, 111, rfl, by decide, fun hok => ?_⟩
      have := ((hok.2.2 v l hl).1 h hmem).2.2
      rw [hfv] at this
      simp at hbf
      exact hbf this
     rintro _ hbt1
     have hfr : fromV es h = v := by rw [hfv]; simpa using hbt1
     obtain ⟨hn, rfl⟩ := Int.eq_ofNat_of_zero_le hh0
     refine Zx <| Zs ?_
     refine Zm ?_
     refine Zm ?_
     refine Zi Tryz.underlying188 FS ?_
     refine Zu (Ai rfl rfl Id (Be (D5 f2 (by omega)))) ?_
     refine Zo (Bg rfl rfl) ?_
     refine Zm ?_
     refine BO rfl rfl Ee rfl rfl rfl (fun w' hw => BN _ v 112 w') ?_ ?_
     ·rintro _ ⟨rfl, hbf⟩
      refine Ay <| AA <| Ay <| Ay <| AA <| Ay <| AA <| Ay <| Ay <| AA <| ?_
      refine Bn ⟨v, 112, rfl, by decide, fun hok => ?_⟩
      have hs : f2 hn = true := by simpa using hbf
      rcases (hPse hn).1 hs with ⟨x, l', hx, hl', hm⟩ | hm
      ·have := ((hok.2.2 x l' hl').1 _ hm).2.2
       omega
      ·obtain ⟨q, hq⟩ := List.mem_iff_getElem?.1 hm
       rw [List.getElem?_take] at hq
       split at hq
       ·have := (List.getElem?_inj (by omega) (hok.2.2 v l hl).2.1).1 (hq.trans hh.symm)
        omega
       ·cases hq
     rintro _ hbt2
     have hns : ¬ (f2 hn = true) := by simpa using hbt2
     refine Zx <| DC.region ?_
     refine Zm ?_
     refine Zm ?_
     refine Zi Tryz.underlying188 FS ?_
     refine Zy (AF (cs' := (bls (es.length * 2) (updB f2 hn true)).toArray) rfl rfl rfl FS rfl (by simp; omega) (D4 f2 true)) ?_
     refine Seq.nil <| Fin.inBlock <| Fin.then <| DC.region ?_
     refine Zp ?_
     refine Zm ?_
     refine Seq.nil ?_
     refine Fin.again (ChkI.mk (k + 1) (updB f2 hn true)) (by dsimp only; omega) ?_ ⟨rfl, rfl, rfl, rfl, rfl, rfl, rfl, rfl, rfl, rfl, rfl, trivial⟩ (Pick.all _)
     have htk : l.take (k + 1) = l.take k ++ [(hn : Int)] := by rw [List.take_add_one, hh]; rfl
     have hnk : (hn : Int) ∉ l.take k := fun hm => hns ((hPse hn).2 (.inr hm))
     refine ⟨by dsimp only; omega, ?_, ?_, ?_⟩
     ·dsimp only
      intro h' hh'
      rw [htk, List.mem_append] at hh'
      rcases hh' with hh' | hh'
      ·exact hP.fr h' hh'
      ·simp at hh'; subst hh'; exact ⟨hh0, hh1, hfr⟩
     ·dsimp only
      rw [htk, List.nodup_append]
      refine ⟨hP.nd, by simp, fun a ha b hb e => ?_⟩
      simp at hb; subst hb; subst e; exact hnk ha
     ·intro h'
      dsimp only
      rw [htk]
      unfold updB
      split
      ·rename_i e; subst e; simp
      ·rename_i e
       rw [hPse h', List.mem_append]
       have : ¬ ((h' : Int) = (hn : Int)) := by omega
       simp [this]
    ·refine Zk ?_
     refine Zk ?_
     refine Zk ?_
     refine Zk ?_
     refine Zk ?_
     refine Zk ?_
     refine Zg ?_
     refine Zm ?_
     refine BO rfl rfl Ee rfl rfl rfl (fun w' hw => BN _ v 111 w') ?_ ?_
     ·rintro _ ⟨rfl, hbf⟩
      refine Ay <| AA <| Ay <| Ay <| AA <| Ay <| AA <| Ay <| Ay <| AA <| ?_
      refine Bn ⟨v, 111, rfl, by decide, fun hok => ?_⟩
      have := ((hok.2.2 v l hl).1 h hmem)
      simp at k12_8 k12_2; omega
     rintro _ h9
     cases h9
   ·refine Zk ?_
    refine Zk ?_
    refine Zk ?_
    refine Zk ?_
    refine Zg ?_
    refine Zm ?_
    refine Zk ?_
    refine Zk ?_
    refine Zk ?_
    refine Zk ?_
    refine Zk ?_
    refine Zk ?_
    refine Zg ?_
    refine Zm ?_
    refine BO rfl rfl Ee rfl rfl rfl (fun w' hw => BN _ v 111 w') ?_ ?_
    ·rintro _ ⟨rfl, hbf⟩
     refine Ay <| AA <| Ay <| Ay <| AA <| Ay <| AA <| Ay <| Ay <| AA <| ?_
     refine Bn ⟨v, 111, rfl, by decide, fun hok => ?_⟩
     have := ((hok.2.2 v l hl).1 h hmem)
     simp at k12_2; omega
    rintro _ h9
    cases h9
  ·refine DC.exit <| Ad <| Ad <| Ag <| Fin.then ?_
   have hkl : k = l.length := by simp at c10; omega
   subst hkl
   have hPfr := hP.fr
   have hPnd := hP.nd
   dsimp only at hPfr hPnd
   rw [List.take_length] at hPfr hPnd hPse
   refine DC.region ?_
   refine Zm ?_
   refine Zn Tryz.underlying44 ?_
   refine Zm ?_
   refine Zm ?_
   refine Zi Tryz.underlying44 AL ?_
   refine Zu (Ai rfl rfl AI (Be (Bs hvlt))) ?_
   refine Zo (AN rfl rfl rfl) ?_
   refine Zm ?_
   refine BO rfl rfl Ee rfl rfl rfl (fun w' hw => BN _ v 113 w') ?_ ?_
   ·rintro _ ⟨rfl, hbf⟩
    refine AA <| Ay <| Ay <| AA <| ?_
    refine Bn ⟨v, 113, rfl, by decide, fun hok => ?_⟩
    have := (hok.2.2 v l hl).2.2
    simp at hbf
    exact hbf this
   rintro _ hbt3
   have hcnt : (l.length : Int) = cnt es v := by simpa using hbt3
   refine Seq.nil <| Fin.inBlock <| Fin.then <| DC.region ?_
   refine Zp ?_
   refine Zm ?_
   refine Seq.nil ?_
   refine Fin.again (ChkI.mk (v + 1) f2) (by dsimp only; omega) ⟨by dsimp only; omega, ?_, ?_⟩ ⟨rfl, rfl, rfl, rfl, rfl, rfl, trivial⟩ (Pick.all _)
   ·intro x l' hx hl'
    dsimp only at hx
    rcases Nat.lt_succ_iff_lt_or_eq.1 hx with hx | rfl
    ·exact hd.ok x l' hx hl'
    ·rw [hl] at hl'; cases hl'
     exact ⟨hPfr, hPnd, hcnt⟩
   ·intro h'
    dsimp only
    rw [hPse h']
    constructor
    ·rintro (⟨x, l', hx, h1, h2⟩ | h1)
     ·exact ⟨x, l', by omega, h1, h2⟩
     ·exact ⟨v, l, by omega, hl, h1⟩
    ·rintro ⟨x, l', hx, h1, h2⟩
     rcases Nat.lt_succ_iff_lt_or_eq.1 hx with hx | rfl
     ·exact .inl ⟨x, l', hx, h1, h2⟩
     ·rw [hl] at h1; cases h1; exact .inr h2
 ·refine DC.exit <| Ad <| Ad <| Ag ?_
  have hvl : v = rs.length := by simp at c7; omega
  subst hvl
  refine Fin.weak (E' := []) trivial .nil ?_
  refine Do (.inr rfl) (B2 (.inr rfl) rfl ⟨⟨hV, rfl, fun x l hl => hd.ok x l (List.getElem?_eq_some_iff.1 hl).1 hl⟩, rfl⟩)
end Go.Fl
