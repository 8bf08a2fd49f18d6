/- Part 3 of the proof: the library of the walk and the walks, in build order; no condition. -/
import Derived.Test.YthjmapekjggdjaaGreatDoorZT2
set_option linter.unusedVariables false
set_option linter.unusedSimpArgs false
set_option linter.unusedSectionVars false
set_option maxRecDepth 100000
namespace Go.Fl
open Go Go.Proofs
theorem Ox {w0 w w' : World} {L0 L : List Chunk} {A : Option Addr} {vs : List Value} (h : Rd w0 A vs) (hO : Own w0 [] w L0) (hw : Own w (idsOf L0) w' L) : Rd w' A vs := by
 intro j u hj
 obtain ⟨ad, rfl, hc⟩ := h j u hj
 exact ⟨ad, rfl, EO hO hc w' hw⟩
theorem Nm {w0 w w' : World} {L0 L : List Chunk} {v : Value} {ls : List (List Int)} (h : LsV w0 v ls) (hO : Own w0 [] w L0) (hw : Own w (idsOf L0) w' L) : LsV w' v ls := by
 obtain ⟨A, cap, rfl, hr, h1, h2, h3⟩ := h
 refine ⟨A, cap, rfl, fun i l hi => ?_, h1, h2, h3⟩
 obtain ⟨ad, lv, rfl, hc, B, cb, rfl, hb, h4⟩ := hr i l hi
 exact ⟨ad, _, rfl, EO hO hc w' hw, B, cb, rfl, Ox hb hO hw, h4⟩
theorem ID {N : Int} {es : List Pr} {rs : List (List Int)} {va v : Value} {w0 w : World} {ga gb : Nat} (hg : PrV w0 va es) (hl : LsV w0 v rs)
  (hO : Own w0 [] w [blk gb 59 #[v], blk ga 24 #[.int .i64 N, va]]) :
  Calls Tryz.prog 113 #[.pointer (some ⟨ga, 0, none⟩), .pointer (some ⟨gb, 0, none⟩)] w
   (RetP w (idsOf [blk gb 59 #[v], blk ga 24 #[.int .i64 N, va]]) (fun _ M => RotL N es rs) (fun pv M => ∃ x e, pv = flt x e ∧ (e ≠ 0 ∧ ¬ RotL N es rs))) := by
 refine CK (args := [_, _]) Tryz.func113 rfl Tryz.ntmps113 rfl hO.self ?_
 refine DC.region ?_
 refine Zu (Aq (vs := [_, _]) rfl rfl Bs Bd rfl (Ai rfl)) ?_
 refine Zl OV ?_
 refine Dc rfl rfl QT rfl rfl rfl (Lc := []) (F := [blk gb 59 #[v], blk ga 24 #[.int .i64 N, va]]) (.refl _) (fun k hk => by simp at hk) (fun w' hw => JQ (N := N) (rs := rs) (Gg hg hO hw) (Nm hl hO hw)) ?_ ?_
 ·rintro _ M ⟨x, e, rfl, hbad⟩
  exact AZ ⟨x, e, rfl, hbad⟩
 rintro _ M ⟨hok, rfl⟩
 refine Seq.nil ?_
 refine CX (.inr rfl) (BL (.inr rfl) rfl hok)
theorem J5 {N : Int} {es : List Pr} {rs : List (List Int)} {va v : Value} {w : World} (hg : PrV w va es) (hl : LsV w v rs) :
  Calls Tryz.prog 87 #[.agg #[.int .i64 N, va], v] w (Ret w [] fun r M => M = [] ∧ ∃ x e, r = .tuple #[.int .i64 x, .int .i64 e] ∧ (e = 0 ↔ RotL N es rs)) := by
 have hg0 := hg
 have hl0 := hl
 obtain ⟨A, cap, rfl, hr, hlc, hcm, hle⟩ := hg
 obtain ⟨B, capb, rfl, hrb, hlb, hcb, hleb⟩ := hl
 refine Ao (args := [_, _]) (L := []) Tryz.func87 rfl Tryz.ntmps87 rfl (Own.start _ _) ?_
 refine Zs ?_
 refine Zw (AX rfl rfl rfl) fun g2 => ?_
 refine Zw (AX rfl rfl rfl) fun g3 => ?_
 iterate 2 refine Za ?_
 refine Zx <| DC.seq ?_
 refine DC.own (M := [blk g3 59 #[.slice B rs.length capb], blk g2 24 #[.int .i64 N, .slice A es.length cap]]) (fun w hw => hw) ?_
 refine DC.region ?_
 refine Zo (E9 rfl rfl rfl) ?_
 refine Seq.gen rfl rfl (AQ Pa rfl rfl rfl (Lc := [blk g3 59 #[.slice B rs.length capb], blk g2 24 #[.int .i64 N, .slice A es.length cap]]) (F := []) (.refl _) (fun k hk => hk)
  (fun w' hw => EY (cap := #[.pointer (some ⟨g2, 0, none⟩), .pointer (some ⟨g3, 0, none⟩)]) (C := fun M => RotL N es rs)
   (D := fun v e M => e ≠ 0 ∧ ¬ RotL N es rs) QU hw.self (fun w'' hw'' => ID hg0 hl0 (by simpa using Own.frame (F := []) (by simpa using hw) hw'' (fun k hk => hk))))) ?_
 rintro v12 _ ⟨M, hC, rfl⟩
 have hD : ∃ v e, v12 = .tuple #[.int .i64 v, .int .i64 e] ∧ (e = 0 ↔ RotL N es rs) := by
  rcases hC with ⟨rfl, hC⟩ | ⟨v, e, rfl, hC⟩
  ·exact ⟨0, 0, rfl, by simp [hC]⟩
  exact ⟨v, e, rfl, by simp [hC.1, hC.2]⟩
 clear hC
 obtain ⟨xv, xe, rfl, hD⟩ := hD
 iterate 2 refine Ze ?_
 iterate 2 refine Za ?_
 refine Zx <| DC.ret ?_
 refine Fin.weak (E' := [(4, _), (5, _)]) ⟨rfl, rfl, trivial⟩ .nil ?_
 refine AI (.inl rfl) rfl rfl rfl ?_
 exact ⟨rfl, xv, xe, rfl, hD⟩
/-- By half-edge, the one that follows it at its vertex. -/
def NxOk (rs : List (List Int)) (v : Nat) (f : Nat → Int) : Prop := ∀ (x : Nat) l (i : Nat) h, x < v → rs[x]? = some l → l[i]? = some h → l[(i + 1) % l.length]? = some (f h.toNat)
structure NxI where
 v : Nat
 f : Nat → Int
theorem K0 {N : Int} {es : List Pr} {rs : List (List Int)} {va v : Value} {w : World} (hg : PrV w va es) (hl : LsV w v rs) :
  Calls Tryz.prog 174 #[.agg #[.int .i64 N, va], v] w (Ret w [] fun r M =>
   (RotL N es rs ∧ ∃ g f, r = .tuple #[.slice (some ⟨g, 0, none⟩) (es.length * 2) (es.length * 2), .int .i64 0] ∧ NxOk rs rs.length f ∧ M = [blk g 3 (ints (tab (es.length * 2) f)).toArray]) ∨
   (¬ RotL N es rs ∧ M = [] ∧ ∃ e, r = .tuple #[.slice none 0 0, .int .i64 e] ∧ e ≠ 0)) := by
 have hg0 := hg
 have hl0 := hl
 obtain ⟨A, cap, rfl, hr, hlc, hcm, hle⟩ := hg
 obtain ⟨B, capb, rfl, hrb, hlb, hcb, hleb⟩ := hl
 refine Ao (args := [_, _]) (L := []) Tryz.func174 rfl Tryz.ntmps174 rfl (Own.start _ _) ?_
 refine Zs ?_
 refine Zw (AX rfl rfl rfl) fun g2 => ?_
 iterate 2 refine Za ?_
 refine Zx <| DC.seq <| Zs ?_
 refine Zu (Aq (vs := [_, _]) rfl rfl Bs Bd rfl (Ai rfl)) ?_
 refine Zm ?_
 refine Seq.rel0 rfl rfl (Am en87 rfl rfl rfl (fun w' hw => J5 (hg0.keep0 hw) (hl0.keep0 hw))) ?_
 rintro _ ⟨xv, xe, rfl, hxe⟩
 refine Zm ?_
 iterate 2 refine Ze ?_
 iterate 2 refine Za ?_
 refine Zx <| Zs ?_
 refine Zm ?_
 refine Zo (BQ rfl rfl rfl) ?_
 refine Zx ?_
 refine Zd (fun c2 => ?_) fun c2 => ?_
 ·refine Zs ?_
  refine Zm ?_
  iterate 2 refine Za ?_
  refine Zx <| DC.ret <| Aa ?_
  refine Fin.weak (E' := [(4, _), (5, _)]) ⟨rfl, rfl, trivial⟩ .nil ?_
  refine AI (.inl rfl) rfl rfl rfl ?_
  have hne : xe ≠ 0 := by simpa using c2
  exact .inr ⟨fun h => hne (hxe.2 h), rfl, xe, rfl, hne⟩
 refine DC.skip <| Fin.then <| DC.seq ?_
 have hok : RotL N es rs := hxe.1 (by simpa using c2)
 obtain ⟨hV, hN, hrow⟩ := id hok
 have hfew := hV.few
 refine DC.region ?_
 refine Zf Br ?_
 refine Zl B9 ?_
 refine Zn Ru ?_
 refine Zo (Ch rfl rfl rfl (by omega)) ?_
 refine Zw (Cb (k := es.length * 2) rfl rfl rfl Rt AN E5 Cg (by omega) (by omega) (by omega) (Ci _)) fun g26 => ?_
 refine Za ?_
 refine Zx <| DC.seq <| Zs ?_
 refine Zm ?_
 refine Zn Ry ?_
 refine Zm ?_
 refine Zx <| DC.block ?_
 refine DC.loop (ι := NxI) (fun j => j.v ≤ rs.length ∧ NxOk rs j.v j.f)
  (fun j => [(8, .slice (some ⟨g26, 0, none⟩) (es.length * 2) (es.length * 2)), (27, .slice B rs.length capb), (28, .int .i64 rs.length), (29, .int .i64 j.v)])
  (fun j => [blk g26 3 (ints (tab (es.length * 2) j.f)).toArray]) (fun j => rs.length - j.v) ⟨0, fun _ => 0⟩ ⟨Nat.zero_le _, fun _ _ _ _ h => absurd h (Rs _)⟩ ⟨rfl, rfl, rfl, rfl, trivial⟩ (.cons 0 rfl .nil) ?_
 rintro ⟨v, f⟩ ⟨hv, hd⟩
 dsimp only at hv hd ⊢
 refine Zs ?_
 refine Zc ?_
 refine Zx <| DC.seq ?_
 refine Zd (fun c6 => ?_) fun c6 => ?_
 ·have hvlt : v < rs.length := by simpa using c6
  obtain ⟨l, hl⟩ : ∃ l, rs[v]? = some l := ⟨_, Q8 hvlt⟩
  obtain ⟨adb, lv, rfl, hc, Al, capl, rfl, hrl, hl1, hl2, hl3⟩ := hrb v l hl
  obtain ⟨hfr, hnd, _⟩ := hrow v l hl
  refine DC.skip <| Fin.then <| DC.seq <| DC.block <| Zs ?_
  refine Zi Ry Cn ?_
  refine Zu (Ak rfl rfl BS (AY hc)) ?_
  refine Za ?_
  refine Zx <| Zs ?_
  refine Zm ?_
  refine Zn Rt ?_
  refine Zm ?_
  refine Zx <| DC.block ?_
  refine DC.loop (ι := NxI) (fun j => j.v ≤ l.length ∧ NxOk rs v j.f ∧ ∀ (i : Nat) h, i < j.v → l[i]? = some h → l[(i + 1) % l.length]? = some (j.f h.toNat))
   (fun j => [(8, .slice (some ⟨g26, 0, none⟩) (es.length * 2) (es.length * 2)), (10, .slice Al l.length capl), (27, .slice (some adb) rs.length capb), (28, .int .i64 rs.length), (29, .int .i64 v), (33, .slice Al l.length capl), (34, .int .i64 l.length), (35, .int .i64 j.v)])
   (fun j => [blk g26 3 (ints (tab (es.length * 2) j.f)).toArray]) (fun j => l.length - j.v) ⟨0, f⟩ ⟨Nat.zero_le _, hd, fun _ _ h => absurd h (Rs _)⟩ ⟨rfl, rfl, rfl, rfl, rfl, rfl, rfl, rfl, trivial⟩ (.cons 0 rfl .nil) ?_
  rintro ⟨k, f2⟩ ⟨hk, hd2, hin⟩
  dsimp only at hk hd2 hin ⊢
  refine Zs ?_
  refine Zc ?_
  refine Zx <| DC.seq ?_
  refine Zd (fun c9 => ?_) fun c9 => ?_
  ·have hklt : k < l.length := by simpa using c9
   obtain ⟨h, hh⟩ : ∃ h, l[k]? = some h := ⟨_, Q8 hklt⟩
   obtain ⟨hh0, hh1, hh2⟩ := hfr h (Rc hh)
   obtain ⟨adl, rfl, hch⟩ := hrl.int hh
   have hml : (k + 1) % l.length < l.length := Nat.mod_lt _ (by omega)
   obtain ⟨h', hh'⟩ : ∃ h', l[(k + 1) % l.length]? = some h' := ⟨_, Q8 hml⟩
   obtain ⟨adl', e, hch'⟩ := hrl.int hh'
   cases e
   have emod : ((k : Int) + 1) % (l.length : Int) = (((k + 1) % l.length : Nat) : Int) := by rw [Int.natCast_emod, Int.natCast_add]; rfl
   refine DC.skip <| Fin.then <| DC.seq <| DC.block <| Zs ?_
   refine Zm ?_
   refine Zi Rt AN ?_
   refine Zu (Ak rfl rfl AJ (AY hch)) ?_
   iterate 2 refine Za ?_
   refine Zx <| DC.region ?_
   iterate 4 refine Zm ?_
   refine Zp ?_
   refine Zm ?_
   refine Zn Rt ?_
   refine Zo (P5 (j := (l.length : Int)) rfl rfl rfl (by omega) (by omega)) ?_
   rw [emod]
   refine Zi Rt AN ?_
   refine Zu (Ak rfl rfl AJ (AY hch')) ?_
   refine Zi Rt AN ?_
   refine Zy (AB (cs' := (ints (tab (es.length * 2) (upd f2 h.toNat h'))).toArray) rfl rfl rfl AN rfl (by simp; omega) BY) ?_
   refine Seq.nil <| Fin.inBlock <| Fin.then <| DC.region ?_
   refine Zp ?_
   refine Zm ?_
   refine Seq.nil ?_
   refine Fin.again (NxI.mk (k + 1) (upd f2 h.toNat h')) (by dsimp only; omega) ⟨by dsimp only; omega, ?_, ?_⟩ ⟨rfl, rfl, rfl, rfl, rfl, rfl, rfl, rfl, trivial⟩ (.cons 0 rfl .nil)
   ·intro x l' i h2 hx hl' hi2
    dsimp only
    unfold upd
    rw [if_neg ?_]
    ·exact hd2 x l' i h2 hx hl' hi2
    intro e
    obtain ⟨h4, h5, h6⟩ := (hrow x l' hl').1 h2 (Rc hi2)
    have : h2 = h := by omega
    subst this
    omega
   intro i h2 hi2 hl2
   dsimp only at hi2 ⊢
   unfold upd
   split
   ·rename_i e
    have h4 := (hfr h2 (Rc hl2)).1
    have : h2 = h := by omega
    subst this
    have : i = k := (List.getElem?_inj (by have := (Q9.1 hl2).1; exact this) hnd).1 (hl2.trans hh.symm)
    subst this; exact hh'
   rename_i e
   rcases Re.1 hi2 with hi2 | rfl
   ·exact hin i h2 hi2 hl2
   rw [hh] at hl2; cases hl2; exact absurd rfl e
  refine DC.exit <| Ad <| Ad <| Ag <| Fin.inBlock <| Fin.then <| DC.region ?_
  refine Zp ?_
  refine Zm ?_
  refine Seq.nil ?_
  have hkl : k = l.length := by simp at c9; omega
  subst hkl
  refine Fin.again (NxI.mk (v + 1) f2) (by dsimp only; omega) ⟨by dsimp only; omega, ?_⟩ ⟨rfl, rfl, rfl, rfl, trivial⟩ (.cons 0 rfl .nil)
  intro x l' i h2 hx hl' hi2
  dsimp only at hx ⊢
  rcases Re.1 hx with hx | rfl
  ·exact hd2 x l' i h2 hx hl' hi2
  rw [hl] at hl'; cases hl'
  exact hin i h2 (Q9.1 hi2).1 hi2
 refine DC.exit <| Ad <| Ad <| Ag <| Fin.then <| Zs ?_
 refine Zm ?_
 iterate 2 refine Za ?_
 refine Zx <| DC.ret ?_
 refine AI (.inl rfl) rfl rfl rfl ?_
 have hvl : v = rs.length := by simp at c6; omega
 subst hvl
 exact .inl ⟨hok, g26, f, rfl, hd, rfl⟩
/-- A certificate that has a text. -/
def TextOk (pl : Bool) (ls : List (List Int)) (cs : List Pr) : Prop := HasForm pl ls cs ∧ (certB pl ls cs).length ≤ 33554432
theorem I9 {pl : Bool} {N : Int} {ls : List (List Int)} {cs : List Pr} {va v u : Value} {w : World} (hv : LsV w v ls) (hu : PrV w u cs) (hp : Pow w) (hs : ∀ l, l ∈ ls → l.length ≤ 33554432) :
  Calls Tryz.prog 55 #[.agg #[.int .i64 N, va], .agg #[.bool pl, v, u]] w (Ret w [] fun r L => L = [] ∧ ∃ b, r = .bool b ∧ (b = true ↔ TextOk pl ls cs)) := by
 refine Ao (args := [_, _]) (L := []) Tryz.func55 rfl Tryz.ntmps55 rfl (Own.start _ _) ?_
 refine Zs ?_
 refine Zw (AX rfl rfl rfl) fun g2 => ?_
 refine Zw (AX rfl rfl rfl) fun g3 => ?_
 refine Za ?_
 refine Zx <| Zs ?_
 refine Zu (Aq (vs := [_, _, _]) rfl rfl B7 BA rfl (Ai rfl)) ?_
 refine Seq.rel0 rfl rfl (Am Qp rfl rfl rfl (fun w' hw => FE (hv.keep0 hw) (hu.keep0 hw) (hp.keep0 hw) hs)) ?_
 rintro _ ⟨s, e, rfl, hse⟩
 refine Zm ?_
 iterate 2 refine Ze ?_
 iterate 2 refine Za ?_
 refine Zx <| Zs ?_
 refine Zm ?_
 refine Zo (AW rfl rfl rfl) ?_
 refine Za ?_
 refine Zx <| DC.ret ?_
 refine Fin.weak (E' := [(4, _)]) ⟨rfl, trivial⟩ .nil ?_
 refine Zh ?_
 refine ⟨rfl, _, rfl, ?_⟩
 unfold TextOk
 rcases hse with ⟨rfl, h1, h2, _⟩ | ⟨rfl, h1, _⟩ | ⟨rfl, h1, h2, _⟩
 ·simp [h1, h2]
 ·simp [h1]
 simp [h1]; omega
theorem IL {pl : Bool} {N : Int} {es : List Pr} {ls : List (List Int)} {va v u : Value} {w : World} (hg : PrV w va es) (hv : LsV w v ls) :
  Calls Tryz.prog 56 #[.agg #[.int .i64 N, va], .agg #[.bool pl, v, u]] w (Ret w [] fun r L => L = [] ∧ ∃ b, r = .bool b ∧ (b = true ↔ RotOk N es ls)) := by
 refine Ao (args := [_, _]) (L := []) Tryz.func56 rfl Tryz.ntmps56 rfl (Own.start _ _) ?_
 refine Zs ?_
 refine Zw (AX rfl rfl rfl) fun g2 => ?_
 refine Zw (AX rfl rfl rfl) fun g3 => ?_
 refine Za ?_
 refine Zx <| Zs ?_
 refine Zu (Aq (vs := [_, _]) rfl rfl Bs Bd rfl (Ai rfl)) ?_
 refine Zf C4 ?_
 refine Zl Fr ?_
 refine Seq.rel rfl rfl (Am Qj rfl rfl rfl (fun w' hw => FD (hg.keep0 hw) (hv.keep0 hw))) ?_
 intro v12 L12 hC12
 obtain ⟨x0, x1, e, rfl, he⟩ : ∃ x0 x1 e, v12 = .tuple #[x0, x1, .int .i64 e] ∧ (e = 0 ↔ RotOk N es ls) := by
  rcases hC12 with ⟨hok, g, rs, rfl, _⟩ | ⟨hno, _, x, e, rfl, hne⟩
  ·exact ⟨_, _, _, rfl, by simp [hok]⟩
  exact ⟨_, _, _, rfl, by simp [hno, hne]⟩
 clear hC12
 refine Zm ?_
 iterate 3 refine Ze ?_
 iterate 3 refine Za ?_
 refine Zx <| Zs ?_
 refine Zm ?_
 refine Zo (AW rfl rfl rfl) ?_
 refine Za ?_
 refine Zx <| DC.ret ?_
 refine Fin.weak (E' := [(4, _)]) ⟨rfl, trivial⟩ .nil ?_
 refine Zh ?_
 exact ⟨rfl, _, rfl, by simpa using he⟩
/-- The numbers of a certificate's edges in a graph. -/
def NumR (es cs : List Pr) (ns : List Int) : Prop := ns.length = cs.length ∧ ∀ (j : Nat) c m, cs[j]? = some c → ns[j]? = some m → (m = -1 ∧ c ∉ es) ∨ ∃ i : Nat, m = i ∧ es[i]? = some c
def NumM (es : List Pr) (i : Nat) (f : Pr → Option Value) : Prop := ∀ p, (f p = none ∧ p ∉ es.take i) ∨ ∃ k : Nat, k < i ∧ es[k]? = some p ∧ f p = some (.int .i64 ((k : Int) + 1))
structure NumbI where
 i : Nat
 m : List (Pr × Value)
structure NumbJ where
 i : Nat
 ns : List Int
theorem DR {pl : Bool} {N : Int} {es cs : List Pr} {va v u : Value} {w : World} (hg : PrV w va es) (hu : PrV w u cs) :
  Calls Tryz.prog 96 #[.agg #[.int .i64 N, va], .agg #[.bool pl, v, u]] w (Ret w [] fun r M => ∃ g ns, r = .slice (some ⟨g, 0, none⟩) cs.length cs.length ∧ NumR es cs ns ∧ M = [blk g 3 (ints ns).toArray]) := by
 obtain ⟨A, cap, rfl, hr, hlc, hcm, hle⟩ := hg
 obtain ⟨B, capb, rfl, hrb, hlb, hcb, hleb⟩ := hu
 refine Ao (args := [_, _]) (L := []) Tryz.func96 rfl Tryz.ntmps96 rfl (Own.start _ _) ?_
 refine Zs ?_
 refine Zw (AX rfl rfl rfl) fun g2 => ?_
 refine Zw (AX rfl rfl rfl) fun g3 => ?_
 refine Za ?_
 refine Zx <| Zs ?_
 refine Seq.rel rfl rfl (CH (enc := encP) rfl) ?_
 rintro _ _ ⟨gm, rfl, rfl⟩
 simp only [zs]
 refine Za ?_
 refine Zx <| DC.seq <| Zs ?_
 refine Zf Br ?_
 refine Zl B9 ?_
 refine Zn Ru ?_
 refine Zm ?_
 refine Zx <| DC.block ?_
 refine DC.loop (ι := NumbI) (fun j => j.i ≤ es.length ∧ NumM es j.i (lkM j.m))
  (fun j => [(3, .pointer (some ⟨g3, 0, none⟩)), (5, .map (some gm)), (13, .slice A es.length cap), (14, .int .i64 es.length), (15, .int .i64 j.i)])
  (fun j => [mpc encP gm j.m, blk g3 27 #[.bool pl, v, .slice B cs.length capb]]) (fun j => es.length - j.i) ⟨0, []⟩ ⟨Nat.zero_le _, fun p => .inl ⟨rfl, by simp⟩⟩ ⟨rfl, rfl, rfl, rfl, rfl, trivial⟩ (.cons 0 rfl (.cons 0 rfl .nil)) ?_
 rintro ⟨i, m⟩ ⟨hi, hm⟩
 dsimp only at hi hm ⊢
 refine Zs ?_
 refine Zc ?_
 refine Zx <| DC.seq ?_
 refine Zd (fun c3 => ?_) fun c3 => ?_
 ·have hlt : i < es.length := by simpa using c3
  obtain ⟨e, he⟩ : ∃ e, es[i]? = some e := ⟨_, Q8 hlt⟩
  obtain ⟨ad, rfl, hU, hVe⟩ := hr.pair he
  refine DC.skip <| Fin.then <| DC.seq <| DC.block <| Zs ?_
  refine Zm ?_
  refine Zo (AT rfl rfl rfl Ru AP (by omega) (by omega) (by first | exact Az _ _ | exact AS _ _ _ | rfl)) ?_
  refine Zu (Aq (vs := [_, _]) rfl rfl BW AP rfl (CC hU hVe (by simp))) ?_
  refine Zw (Ay rfl B6 rfl) fun g7 => ?_
  refine Za ?_
  refine Zy (Ah (cs' := #[_, _]) rfl rfl rfl AP rfl (Ra rfl) rfl) ?_
  refine Zx <| DC.region ?_
  refine Zm ?_
  refine Zu (Aq (vs := [_, _]) rfl rfl BW AP rfl (Ai rfl)) ?_
  refine Zm ?_
  refine Zp ?_
  refine Zy (BF (k := e) 1 rfl FQ rfl rfl rfl rfl Tryz.underlying196 rfl) ?_
  refine Seq.nil <| Fin.inBlock <| Fin.then <| DC.region ?_
  refine Zp ?_
  refine Zm ?_
  refine Seq.nil ?_
  refine Fin.again ⟨i + 1, putM e (.int .i64 ((i : Int) + 1)) m⟩ (by dsimp only; omega) ⟨by dsimp only; omega, ?_⟩ ⟨rfl, rfl, rfl, rfl, rfl, trivial⟩ (.cons 1 rfl (.cons 1 rfl .nil))
  intro p
  dsimp only
  rw [Do]
  by_cases hp : p = e
  ·subst hp
   rw [if_pos rfl]
   exact .inr ⟨i, by omega, he, rfl⟩
  rw [if_neg hp]
  rcases hm p with ⟨h1, h2⟩ | ⟨k, h1, h2, h3⟩
  ·refine .inl ⟨h1, ?_⟩
   rw [List.take_add_one, he, List.mem_append]
   simp [h2, hp]
  exact .inr ⟨k, by omega, h2, h3⟩
 refine DC.exit <| Ad <| Ad <| Ag <| Fin.then <| DC.seq ?_
 have hie : i = es.length := by simp at c3; omega
 subst hie
 refine DC.region ?_
 refine Zf DZ ?_
 refine Zl B9 ?_
 refine Zn Ru ?_
 refine Zw (Cb (k := cs.length) (cs := (ints (List.replicate cs.length 0)).toArray) rfl rfl rfl Rt AN E5 Cg rfl (by omega) (by omega) (Hu _)) fun g28 => ?_
 refine Za ?_
 refine Zx <| DC.seq <| Zs ?_
 refine Zf DZ ?_
 refine Zl B9 ?_
 refine Zn Ru ?_
 refine Zm ?_
 refine Zx <| DC.block ?_
 refine DC.loop (ι := NumbJ) (fun j => j.i ≤ cs.length ∧ j.ns.length = cs.length ∧ ∀ (q : Nat) c x, q < j.i → cs[q]? = some c → j.ns[q]? = some x → (x = -1 ∧ c ∉ es) ∨ ∃ i : Nat, x = i ∧ es[i]? = some c)
  (fun j => [(5, .map (some gm)), (8, .slice (some ⟨g28, 0, none⟩) cs.length cs.length), (30, .slice B cs.length capb), (31, .int .i64 cs.length), (32, .int .i64 j.i)])
  (fun j => [mpc encP gm m, blk g28 3 (ints j.ns).toArray]) (fun j => cs.length - j.i) ⟨0, List.replicate cs.length 0⟩ ⟨Nat.zero_le _, by simp, fun _ _ _ h => absurd h (Rs _)⟩ ⟨rfl, rfl, rfl, rfl, rfl, trivial⟩ (.cons 1 rfl (.cons 0 rfl .nil)) ?_
 rintro ⟨i, ns⟩ ⟨hi2, hns, hn⟩
 dsimp only at hi2 hns hn ⊢
 refine Zs ?_
 refine Zc ?_
 refine Zx <| DC.seq ?_
 refine Zd (fun c9 => ?_) fun c9 => ?_
 ·have hlt : i < cs.length := by simpa using c9
  obtain ⟨c, hc⟩ : ∃ c, cs[i]? = some c := ⟨_, Q8 hlt⟩
  obtain ⟨adb, rfl, hU, hVe⟩ := hrb.pair hc
  refine DC.skip <| Fin.then <| DC.seq <| DC.block <| Zs ?_
  refine Zm ?_
  refine Zo (AT rfl rfl rfl Ru AP (by omega) (by omega) (by first | exact Az _ _ | exact AS _ _ _ | rfl)) ?_
  refine Zu (Aq (vs := [_, _]) rfl rfl BW AP rfl (CC hU hVe (by simp))) ?_
  refine Zw (Ay rfl B6 rfl) fun g10 => ?_
  refine Za ?_
  refine Zy (Ah (cs' := #[_, _]) rfl rfl rfl AP rfl (Ra rfl) rfl) ?_
  refine Zx <| DC.region ?_
  iterate 3 refine Zm ?_
  refine Zu (Aq (vs := [_, _]) rfl rfl BW AP rfl (Ai rfl)) ?_
  obtain ⟨x, hx, hx0, hx1, hxr⟩ : ∃ x : Int, (if false then (.tuple #[(lkM m c).getD (.int .i64 0), .bool (lkM m c).isSome] : Value) else (lkM m c).getD (.int .i64 0)) = .int .i64 x ∧ 0 ≤ x ∧ x ≤ es.length ∧ ((x - 1 = -1 ∧ c ∉ es) ∨ ∃ i : Nat, x - 1 = i ∧ es[i]? = some c) := by
   rcases hm c with ⟨h1, h2⟩ | ⟨k, h1, h2, h3⟩
   ·exact ⟨0, by rw [h1]; rfl, by omega, by omega, .inl ⟨rfl, by simpa using h2⟩⟩
   exact ⟨(k : Int) + 1, by rw [h3]; rfl, by omega, by omega, .inr ⟨k, by omega, h2⟩⟩
  refine Zu (Cz (k := c) 1 rfl FQ rfl rfl rfl Tryz.underlying196 Cg hx) ?_
  refine Zo (Ce rfl rfl rfl (by omega)) ?_
  refine Zi Rt AN ?_
  refine Zy (AB (cs' := (ints (ns.set i (x - 1))).toArray) rfl rfl rfl AN rfl (by simp; omega) DM) ?_
  refine Seq.nil <| Fin.inBlock <| Fin.then <| DC.region ?_
  refine Zp ?_
  refine Zm ?_
  refine Seq.nil ?_
  refine Fin.again ⟨i + 1, ns.set i (x - 1)⟩ (by dsimp only; omega) ⟨by dsimp only; omega, by simp [hns], ?_⟩ ⟨rfl, rfl, rfl, rfl, rfl, trivial⟩ (.cons 1 rfl (.cons 1 rfl .nil))
  intro q c' x' hq hc' hx'
  dsimp only at hq hx'
  rw [List.getElem?_set] at hx'
  split at hx'
  ·rename_i e; subst e
   rw [if_pos (by omega)] at hx'; cases hx'
   rw [hc] at hc'; cases hc'
   exact hxr
  exact hn q c' x' (by omega) hc' hx'
 refine DC.exit <| Ad <| Ad <| Ag <| Fin.then <| Zs ?_
 refine Zm ?_
 refine Za ?_
 refine Zx <| DC.ret ?_
 have hie : i = cs.length := by simp at c9; omega
 subst hie
 refine Fin.weak (E' := [(4, _)]) ⟨rfl, trivial⟩ (.cons 1 rfl .nil) ?_
 refine Zh ?_
 exact ⟨g28, ns, rfl, ⟨hns, fun j c x hj hx => hn j c x (Q9.1 hj).1 hj hx⟩, rfl⟩
end Go.Fl

namespace Go.Fl
open Go
open Classical
def VH (es : List Pr) (h : Int) : Prop := 0 ≤ h ∧ h < es.length * 2
def degV (es : List Pr) (v : Int) : Nat := (outs es v).length
/-- The half-edge by which one goes on behind h. -/
def nxtH (es : List Pr) (h : Int) : Int :=
 if ((outs es (toV es h))[0]?).getD (-1) = tw h then ((outs es (toV es h))[1]?).getD (-1) else ((outs es (toV es h))[0]?).getD (-1)
def contH (es : List Pr) (b h : Int) : Prop := degV es (toV es h) = 2 ∧ toV es h ≠ b
def wI (es : List Pr) (h : Int) : Nat → Int
 | 0 => h
 | k + 1 => nxtH es (wI es h k)
structure Way (es : List Pr) (h : Int) (t : Nat) : Prop where
 vh : VH es h
 cont : ∀ i, i < t → contH es (fromV es h) (wI es h i)
def wayL (es : List Pr) (h : Int) (t : Nat) : List Int := (List.range (t + 1)).map (wI es h)
structure Stops (es : List Pr) (h : Int) (t : Nat) : Prop where
 way : Way es h t
 stop : ¬ contH es (fromV es h) (wI es h t)
section
variable {N : Int} {es : List Pr} {h k : Int}
theorem Hs : ∀ {a b : List Int}, a.Nodup → (∀ x, x ∈ a → x ∈ b) → a.length ≤ b.length
 | [], b, _, _ => by simp
 | x :: r, b, hn, hs => by
  rw [List.nodup_cons] at hn
  have hx : x ∈ b := hs x (by simp)
  have ih := Hs (a := r) (b := b.erase x) hn.2 (fun y hy => (List.mem_erase_of_ne (fun e => hn.1 (by rw [← e]; exact hy))).2 (hs y (by simp [hy])))
  have := List.length_erase_of_mem hx
  have := List.length_pos_of_mem hx
  simp only [List.length_cons]; omega
theorem VH.tw (hh : VH es h) : VH es (tw h) := IK hh.1 hh.2
theorem Pf {h k : Int} (e : tw h = tw k) : h = k := by rw [← MQ h, e, MQ]
theorem FT (hh : VH es h) : fromV es (tw h) = toV es h := by unfold toV; rw [if_pos hh.1]
theorem La (hh : VH es h) : toV es (tw h) = fromV es h := by unfold toV; rw [if_pos hh.tw.1, MQ]
theorem Kp (v : Int) : (outs es v).Nodup := by
 have := (Dn es 0 v).1
 exact this.imp fun h => by omega
theorem DQ (hV : Vld N es) (hh : VH es h) (hd : degV es (toV es h) = 2) :
  VH es (nxtH es h) ∧ fromV es (nxtH es h) = toV es h ∧ nxtH es h ≠ tw h ∧ nxtH es h ∈ outs es (toV es h) ∧ ∀ y, y ∈ outs es (toV es h) → y = nxtH es h ∨ y = tw h := by
 have hm : tw h ∈ outs es (toV es h) := (Bh hV).2 ⟨hh.tw.1, hh.tw.2, FT hh⟩
 have hn := Kp (es := es) (toV es h)
 unfold degV at hd
 match ho : outs es (toV es h), hd with
 | [a, b], _ =>
  rw [ho] at hm hn
  have hab : a ≠ b := by
   rw [List.nodup_cons] at hn
   intro e; exact hn.1 (by simp [e])
  have key : nxtH es h = if a = tw h then b else a := by unfold nxtH; rw [ho]; rfl
  have hmem : ∀ x, x ∈ [a, b] → VH es x ∧ fromV es x = toV es h := fun x hx => by
   rw [← ho] at hx
   obtain ⟨h1, h2, h3⟩ := (Bh hV).1 hx
   exact ⟨⟨h1, h2⟩, h3⟩
  rw [key]
  by_cases e : a = tw h
  ·rw [if_pos e]
   obtain ⟨q1, q2⟩ := hmem b (by simp)
   refine ⟨q1, q2, by rw [← e]; exact hab.symm, by simp, fun y hy => ?_⟩
   simp at hy
   rcases hy with rfl | rfl
   ·exact .inr e
   exact .inl rfl
  rw [if_neg e]
  obtain ⟨q1, q2⟩ := hmem a (by simp)
  have hb : b = tw h := by
   simp at hm
   rcases hm with rfl | rfl
   ·exact absurd rfl e
   rfl
  refine ⟨q1, q2, e, by simp, fun y hy => ?_⟩
  simp at hy
  rcases hy with rfl | rfl
  ·exact .inl rfl
  exact .inr hb
theorem OB (hV : Vld N es) (hh : VH es h) (hk : VH es k) (hd : degV es (toV es h) = 2) (hd' : degV es (toV es k) = 2) (e : nxtH es h = nxtH es k) : h = k := by
 obtain ⟨a1, a2, a3, a4, a5⟩ := DQ hV hh hd
 obtain ⟨b1, b2, b3, b4, b5⟩ := DQ hV hk hd'
 have hto : toV es h = toV es k := by rw [← a2, e, b2]
 have hm : tw h ∈ outs es (toV es k) := by rw [← hto]; exact (Bh hV).2 ⟨hh.tw.1, hh.tw.2, FT hh⟩
 rcases b5 _ hm with h1 | h1
 ·exact absurd (e.trans h1.symm) a3
 exact Pf h1
section
variable {t : Nat}
theorem Way.le {s : Nat} (hw : Way es h t) (hs : s ≤ t) : Way es h s := ⟨hw.vh, fun i hi => hw.cont i (by omega)⟩
theorem Way.all (hV : Vld N es) (hw : Way es h t) : ∀ i, i ≤ t → VH es (wI es h i)
 | 0, _ => hw.vh
 | i + 1, hi => (DQ hV (hw.all hV i (by omega)) (hw.cont i (by omega)).1).1
theorem Way.link (hV : Vld N es) (hw : Way es h t) {i : Nat} (hi : i < t) : fromV es (wI es h (i + 1)) = toV es (wI es h i) :=
 (DQ hV (hw.all hV i (by omega)) (hw.cont i hi).1).2.1
theorem Way.ne (hV : Vld N es) (hw : Way es h t) : ∀ i j, i < j → j ≤ t → wI es h i ≠ wI es h j
 | 0, j + 1, _, hj => fun e => by
  have h1 := hw.link hV (i := j) (by omega)
  rw [← e] at h1
  exact (hw.cont j (by omega)).2 h1.symm
 | i + 1, j + 1, hij, hj => fun e =>
  hw.ne hV i j (by omega) (by omega) (OB hV (hw.all hV i (by omega)) (hw.all hV j (by omega)) (hw.cont i (by omega)).1 (hw.cont j (by omega)).1 e)
theorem Way.lt (hV : Vld N es) (hw : Way es h t) : t < es.length * 2 := by
 have hnd : (wayL es h t).Nodup := by
  unfold wayL List.Nodup
  rw [List.pairwise_map, List.pairwise_iff_getElem]
  intro i j hi hj hij
  simp only [List.length_range] at hi hj
  simp only [List.getElem_range]
  exact hw.ne hV i j hij (by omega)
 have := Hs (b := (List.range (es.length * 2)).map fun (x : Nat) => (x : Int)) hnd fun x hx => by
  obtain ⟨i, hi, rfl⟩ := List.mem_map.1 hx
  have h1 := hw.all hV i (by have := Rn.1 hi; omega)
  obtain ⟨h2, h3⟩ := h1
  exact List.mem_map.2 ⟨(wI es h i).toNat, Rn.2 (by omega), by omega⟩
 simp [wayL] at this; omega
theorem Stops.uniq {s : Nat} (h1 : Stops es h t) (h2 : Stops es h s) : t = s := by
 rcases Nat.lt_trichotomy t s with c | c | c
 ·exact absurd (h2.way.cont t c) h1.stop
 ·exact c
 exact absurd (h1.way.cont s c) h2.stop
theorem MX (hV : Vld N es) (hh : VH es h) : ∃ t, Stops es h t := by
 apply Classical.byContradiction
 intro hno
 have : ∀ t, Way es h t := by
  intro t
  induction t with
  | zero => exact ⟨hh, fun i hi => absurd hi (Rs _)⟩
  | succ t ih =>
   refine ⟨hh, fun i hi => ?_⟩
   rcases Re.1 hi with h1 | rfl
   ·exact ih.cont i h1
   apply Classical.byContradiction
   intro hc
   exact hno ⟨i, ih, hc⟩
 have := (this (es.length * 2)).lt hV
 omega
end
/-- How far the way from a half-edge goes. -/
noncomputable def wayT (es : List Pr) (h : Int) : Nat := if e : ∃ t, Stops es h t then e.choose else 0
noncomputable def wayOf (es : List Pr) (h : Int) : List Int := wayL es h (wayT es h)
theorem BM (hV : Vld N es) (hh : VH es h) : Stops es h (wayT es h) := by
 have e := MX hV hh
 unfold wayT
 rw [dif_pos e]
 exact e.choose_spec
theorem K7 {t : Nat} (hs : Stops es h t) : wayT es h = t := by
 have e : ∃ t, Stops es h t := ⟨t, hs⟩
 unfold wayT
 rw [dif_pos e]
 exact e.choose_spec.uniq hs
/-! ### lists of half-edges that hang together -/
def Link (es : List Pr) (l : List Int) : Prop := ∀ (i : Nat) x y, l[i]? = some x → l[i + 1]? = some y → fromV es y = toV es x
def AllH (es : List Pr) (l : List Int) : Prop := ∀ x, x ∈ l → VH es x
def aboutL (l : List Int) : List Int := l.reverse.map tw
theorem C5 (h : Int) (t : Nat) : (wayL es h t).length = t + 1 := by simp [wayL]
theorem F5 {t i : Nat} (hi : i ≤ t) : (wayL es h t)[i]? = some (wI es h i) := by simp [wayL, show i < t + 1 by omega]
theorem Hc (h : Int) (t : Nat) : wayL es h (t + 1) = wayL es h t ++ [nxtH es (wI es h t)] := by unfold wayL; rw [List.range_succ, List.map_append]; rfl
theorem IH (hV : Vld N es) {t : Nat} (hw : Way es h t) : Link es (wayL es h t) := by
 intro i x y hx hy
 have hi : i + 1 < t + 1 := by have := (Q9.1 hy).1; rwa [C5] at this
 rw [F5 (by omega)] at hx hy
 cases hx; cases hy
 exact hw.link hV (by omega)
theorem Ez (hV : Vld N es) {t : Nat} (hw : Way es h t) : AllH es (wayL es h t) := by
 intro x hx
 obtain ⟨i, hi, rfl⟩ := List.mem_map.1 hx
 exact hw.all hV i (by have := Rn.1 hi; omega)
theorem Fs {l : List Int} (hl : AllH es l) : AllH es (aboutL l) := by
 intro x hx
 obtain ⟨y, hy, rfl⟩ := List.mem_map.1 hx
 exact (hl y (List.mem_reverse.1 hy)).tw
theorem Bq (l : List Int) : (aboutL l).length = l.length := by simp [aboutL]
theorem Db {l : List Int} {i : Nat} (hi : i < l.length) : (aboutL l)[i]? = (l[l.length - 1 - i]?).map tw := by
 unfold aboutL
 rw [List.getElem?_map, List.getElem?_reverse hi]
theorem KW {l : List Int} (ha : AllH es l) (hl : Link es l) : Link es (aboutL l) := by
 intro i x y hx hy
 have hi : i + 1 < l.length := by have := (Q9.1 hy).1; rwa [Bq] at this
 rw [Db (by omega)] at hx
 rw [Db hi] at hy
 obtain ⟨x', hx', rfl⟩ := Option.map_eq_some_iff.1 hx
 obtain ⟨y', hy', rfl⟩ := Option.map_eq_some_iff.1 hy
 have := hl (l.length - 1 - (i + 1)) y' x' hy' (by rw [← hx']; congr 1; omega)
 rw [FT (ha _ (Rc hy')), La (ha _ (Rc hx')), this]
theorem Jf {a b : List Int} (ha : Link es a) (hb : Link es b) (hj : ∀ x y, a.getLast? = some x → b.head? = some y → fromV es y = toV es x) : Link es (a ++ b) := by
 intro i x y hx hy
 by_cases h1 : i + 1 < a.length
 ·rw [Rk (by omega)] at hx
  rw [Rk h1] at hy
  exact ha i x y hx hy
 by_cases h2 : i < a.length
 ·rw [Rk h2] at hx
  rw [Rl (by omega), show i + 1 - a.length = 0 by omega] at hy
  refine hj x y ?_ (by rw [List.head?_eq_getElem?]; exact hy)
  rw [List.getLast?_eq_getElem?, show a.length - 1 = i by omega]; exact hx
 rw [Rl (by omega)] at hx hy
 rw [show i + 1 - a.length = i - a.length + 1 by omega] at hy
 exact hb _ x y hx hy
theorem Mn {a : List Int} (ha : Link es a) (k : Nat) : Link es (a.drop k) := by
 intro i x y hx hy
 rw [List.getElem?_drop] at hx hy
 exact ha (k + i) x y hx (by rw [← hy]; congr 1)
/-! ### chains -/
/-- The way round from an edge comes back to it, through vertices of degree 2 LR. -/
def FreeC (es : List Pr) (e : Nat) : Prop := toV es (wI es (2 * e) (wayT es (2 * e))) = fromV es (2 * (e : Int)) ∧ degV es (fromV es (2 * (e : Int))) = 2
noncomputable def chainOf (es : List Pr) (e : Nat) : List Int :=
 if FreeC es e then wayOf es (2 * e) else aboutL (wayOf es (2 * e + 1)).tail ++ wayOf es (2 * e)
theorem D5 {e : Nat} (he : e < es.length) : VH es (2 * (e : Int)) := ⟨by omega, by omega⟩
theorem Dg {e : Nat} (he : e < es.length) : VH es (2 * (e : Int) + 1) := ⟨by omega, by omega⟩
theorem Ok (e : Nat) : tw (2 * (e : Int)) = 2 * (e : Int) + 1 := by unfold tw; rw [if_pos (by omega)]
theorem CM (h : Int) : wayOf es h ≠ [] := by
 intro e
 have := congrArg List.length e
 simp [wayOf, C5] at this
theorem F4 (h : Int) : (wayOf es h)[0]? = some h := by unfold wayOf; rw [F5 (by omega)]; rfl
theorem Ei (h : Int) : (wayOf es h).getLast? = some (wI es h (wayT es h)) := by
 rw [List.getLast?_eq_getElem?]
 unfold wayOf
 rw [C5, F5 (by omega)]; rfl
theorem HH (hV : Vld N es) {e : Nat} (he : e < es.length) : AllH es (chainOf es e) := by
 have h1 := Ez hV (BM hV (D5 he)).way
 have h2 := Ez hV (BM hV (Dg he)).way
 unfold chainOf
 split
 ·exact h1
 intro x hx
 rcases List.mem_append.1 hx with hx | hx
 ·exact Fs (fun y hy => h2 y (List.mem_of_mem_tail hy)) x hx
 exact h1 x hx
theorem KO (hV : Vld N es) {e : Nat} (he : e < es.length) : Link es (chainOf es e) := by
 have h1 := IH hV (BM hV (D5 he)).way
 have h2 := IH hV (BM hV (Dg he)).way
 have a2 := Ez hV (BM hV (Dg he)).way
 unfold chainOf
 split
 ·exact h1
 have a3 : AllH es (wayOf es (2 * e + 1)).tail := fun y hy => a2 y (List.mem_of_mem_tail hy)
 have h3 : Link es (wayOf es (2 * e + 1)).tail := by rw [← List.drop_one]; exact Mn h2 1
 refine Jf (KW a3 h3) h1 fun x y hx hy => ?_
 rw [List.head?_eq_getElem?, F4] at hy
 cases hy
 rw [List.getLast?_eq_getElem?, Bq] at hx
 have hpos : 0 < (wayOf es (2 * e + 1)).tail.length := by
  apply Nat.pos_of_ne_zero
  intro h0
  rw [h0] at hx
  have := (Q9.1 hx).1
  rw [Bq, h0] at this
  omega
 rw [Db (by omega), show (wayOf es (2 * e + 1)).tail.length - 1 - ((wayOf es (2 * e + 1)).tail.length - 1) = 0 by omega] at hx
 obtain ⟨z, hz, rfl⟩ := Option.map_eq_some_iff.1 hx
 rw [La (a3 _ (Rc hz))]
 have hz' : (wayOf es (2 * e + 1))[1]? = some z := by rw [List.getElem?_tail] at hz; exact hz
 have := h2 0 _ z (F4 _) hz'
 rw [this, ← Ok, La (D5 he)]
theorem EX (e : Nat) : chainOf es e ≠ [] := by
 unfold chainOf
 split
 ·exact CM _
 intro h; exact CM _ (List.append_eq_nil_iff.1 h).2
theorem KQ (e : Nat) : (chainOf es e).getLast? = some (wI es (2 * e) (wayT es (2 * e))) := by
 unfold chainOf
 split
 ·exact Ei _
 rw [List.getLast?_append, Ei]; rfl
/-- The ends of the chain on which an edge lies. -/
noncomputable def endA (es : List Pr) (e : Nat) : Int := fromV es (((chainOf es e)[0]?).getD (-1))
noncomputable def endB (es : List Pr) (e : Nat) : Int := toV es (wI es (2 * e) (wayT es (2 * e)))
theorem De (hV : Vld N es) (hh : VH es h) : (wayOf es h).length ≤ es.length * 2 := by
 have := (BM hV hh).way.lt hV
 unfold wayOf
 rw [C5]; omega
theorem MD (hV : Vld N es) {e : Nat} (he : e < es.length) : (chainOf es e).length ≤ es.length * 4 := by
 have h1 := De hV (D5 he)
 have h2 := De hV (Dg he)
 unfold chainOf
 split
 ·omega
 rw [List.length_append, Bq, List.length_tail]; omega
/-- Which edges the chains are taken from: those that lie on no chain yet. -/
noncomputable def selU (es : List Pr) : Nat → List Nat
 | 0 => []
 | k + 1 => if ∃ e, e ∈ selU es k ∧ ∃ x, x ∈ chainOf es e ∧ x / 2 = k then selU es k else selU es k ++ [k]
theorem Gd : ∀ (k : Nat), (selU es k).length ≤ k
 | 0 => by simp [selU]
 | k + 1 => by
  have := Gd k
  unfold selU
  split
  ·omega
  simp; omega
end
end Go.Fl

namespace Go.Fl
open Go
open Classical
def srt (a b : Int) : Pr := (min a b, max a b)
/-- The ends of the chains. -/
noncomputable def endsU (es : List Pr) (k : Nat) : List Pr := (selU es k).map fun e => srt (endA es e) (endB es e)
def brV (es : List Pr) (n : Nat) : List Int := ((List.range n).filter fun (v : Nat) => decide (degV es (v : Int) ≠ 0 ∧ degV es (v : Int) ≠ 2)).map fun (v : Nat) => (v : Int)
def pairsOf : List Int → List Pr
 | [] => []
 | x :: r => r.map (srt x) ++ pairsOf r
def crossOf (S : List Int) : List Pr := (S.take 3).flatMap fun x => (S.drop 3).map (srt x)
/-- The least and those that are not joined to it, then the others. -/
def sidesOf (E : List Pr) (B : List Int) : List Int := (B.filter fun v => decide (srt (B.headD 0) v ∉ E)) ++ B.filter fun v => decide (srt (B.headD 0) v ∈ E)
def GoodE (E : List Pr) : Prop := E.Nodup ∧ ∀ p, p ∈ E → p.1 ≠ p.2
theorem DT : ∀ {B : List Int} {q : Pr}, q ∈ pairsOf B ↔ ∃ (i j : Nat) (x y : Int), i < j ∧ B[i]? = some x ∧ B[j]? = some y ∧ q = srt x y
 | [], q => by simp [pairsOf]
 | x :: r, q => by
  unfold pairsOf
  rw [List.mem_append, DT, List.mem_map]
  constructor
  ·rintro (⟨y, hy, rfl⟩ | ⟨i, j, a, b, hij, ha, hb, rfl⟩)
   ·obtain ⟨j, hj⟩ := Rf.1 hy
    exact ⟨0, j + 1, x, y, by omega, rfl, by simpa using hj, rfl⟩
   exact ⟨i + 1, j + 1, a, b, by omega, by simpa using ha, by simpa using hb, rfl⟩
  rintro ⟨i, j, a, b, hij, ha, hb, rfl⟩
  match i, j with
  | 0, j + 1 =>
   left
   simp at ha hb
   subst ha
   exact ⟨b, Rc hb, rfl⟩
  | i + 1, j + 1 =>
   right
   exact ⟨i, j, a, b, by omega, by simpa using ha, by simpa using hb, rfl⟩
theorem FA {S : List Int} {q : Pr} : q ∈ crossOf S ↔ ∃ (i j : Nat) (x y : Int), i < 3 ∧ 3 ≤ j ∧ S[i]? = some x ∧ S[j]? = some y ∧ q = srt x y := by
 unfold crossOf
 rw [List.mem_flatMap]
 constructor
 ·rintro ⟨x, hx, hq⟩
  obtain ⟨y, hy, rfl⟩ := List.mem_map.1 hq
  obtain ⟨i, hi⟩ := Rf.1 hx
  obtain ⟨j, hj⟩ := Rf.1 hy
  rw [List.getElem?_take] at hi
  rw [List.getElem?_drop] at hj
  split at hi
  ·exact ⟨i, 3 + j, x, y, by omega, by omega, hi, hj, rfl⟩
  cases hi
 rintro ⟨i, j, x, y, hi, hj, hx, hy, rfl⟩
 refine ⟨x, Rf.2 ⟨i, by rw [List.getElem?_take, if_pos hi]; exact hx⟩, List.mem_map.2 ⟨y, Rf.2 ⟨j - 3, ?_⟩, rfl⟩⟩
 rw [List.getElem?_drop, show 3 + (j - 3) = j by omega]; exact hy
theorem JA {α : Type} (p q : α → Bool) (hq : ∀ x, q x = !p x) (l : List α) : (l.filter p ++ l.filter q).Perm l := by
 have : q = fun x => !p x := funext hq
 rw [this]
 exact List.filter_append_perm p l
theorem Gc (E : List Pr) (B : List Int) : (sidesOf E B).Perm B := JA _ _ (fun x => by by_cases h : srt (B.headD 0) x ∈ E <;> simp [h]) B
/-- How the program asks. -/
def KP (E : List Pr) (B : List Int) (d : Nat) : Prop :=
 GoodE E ∧ ((B.length = 5 ∧ d = 4 ∧ (∀ q, q ∈ pairsOf B → q ∈ E) ∧ E.length = 10) ∨ (B.length = 6 ∧ d = 3 ∧ (∀ q, q ∈ crossOf (sidesOf E B) → q ∈ E) ∧ E.length = 9))
/-- A subdivision of K5 or K3,3, but for vertices without edges. -/
def KuraOk (n : Nat) (es : List Pr) : Prop := ∃ d, (∀ v, v ∈ brV es n → degV es v = d) ∧ KP (endsU es es.length) (brV es n) d
end Go.Fl

namespace Go.Fl
open Go Go.Proofs
theorem Fc {es : List Pr} {h : Int} : nxtH es h = if ((outs es (toV es h))[0]?).getD (-1) = tw h then ((outs es (toV es h))[1]?).getD (-1) else ((outs es (toV es h))[0]?).getD (-1) := rfl
structure WyI where
 t : Nat
 v : Value
theorem E6 {N : Int} {es : List Pr} {M : AdjM} {p : Option Addr} {w : World} {h : Int} (hA : AV w N es M p) (hh : VH es h) :
  Calls Tryz.prog 180 #[.pointer p, .int .i64 h] w (Ret w [] fun r L => L = [slc r 3 1 (ints (wayOf es h))]) := by
 have hV := hA.vld
 have hfew := hV.few
 have hst := BM hV hh
 refine Ao (args := [_, _]) (L := []) Tryz.func180 rfl Tryz.ntmps180 rfl (Own.start _ _) ?_
 refine Zs ?_
 refine Za ?_
 refine Zx <| Zs ?_
 iterate 2 refine Zm ?_
 refine Seq.rel0 rfl rfl (Am ER rfl rfl rfl (fun w' hw => BO (hA.keep hw) h)) ?_
 rintro _ rfl
 refine Za ?_
 refine Zx <| Zs ?_
 refine Zm ?_
 refine Zw (AM (cs := #[_]) rfl rfl Rt AN Cg rfl (by decide) (by decide) rfl rfl) fun g13 => ?_
 refine Za ?_
 refine Zx <| DC.seq <| Zs ?_
 iterate 2 refine Zm ?_
 refine Seq.rel0 rfl rfl (Am GL rfl rfl rfl (fun w' hw => CV (hA.keep hw) h)) ?_
 rintro _ rfl
 refine Za ?_
 refine Zx <| DC.block ?_
 refine DC.own (M := [slc (.slice (some ⟨g13, 0, none⟩) 1 1) 3 1 (ints (wayL es h 0))]) (fun w hw => B3 (len := 1) (cap := 1) rfl (by decide) (by omega) (by omega) rfl rfl hw) ?_
 refine DC.loop (ι := WyI) (fun j => Way es h j.t)
  (fun j => [(0, .pointer p), (1, .int .i64 (wI es h j.t)), (5, .int .i64 (fromV es h)), (6, j.v), (7, .int .i64 (toV es (wI es h j.t)))])
  (fun j => [slc j.v 3 1 (ints (wayL es h j.t))]) (fun j => es.length * 2 - j.t) ⟨0, _⟩ ⟨hh, fun i hi => absurd hi (Rs _)⟩ ⟨rfl, rfl, rfl, rfl, rfl, trivial⟩ (.cons 0 rfl .nil) ?_
 rintro ⟨t, v⟩ hw
 dsimp only at hw ⊢
 have hlt := hw.lt hV
 have hvh := hw.all hV t (Nat.le_refl _)
 obtain ⟨hv0, hv1⟩ := hvh
 refine DC.seq <| Zs ?_
 iterate 2 refine Zm ?_
 refine Seq.rel0 rfl rfl (Am JE rfl rfl rfl (fun w' hw => Cj (hA.keep hw) _)) ?_
 rintro _ rfl
 refine Zo (AW rfl rfl rfl) ?_
 refine Zm ?_
 refine Seq.split 21 rfl (fun k4_4 => ?_) (fun k4_4 => ?_)
 ·refine Zm ?_
  refine Zm ?_
  refine Zo (BQ rfl rfl rfl) ?_
  refine Zt ?_
  refine Zx ?_
  refine Zd (fun c4 => ?_) fun c4 => ?_
  ·have hc : contH es (fromV es h) (wI es h t) := ⟨by simp at k4_4; unfold degV; omega, by simpa using c4⟩
   have hw1 : Way es h (t + 1) := ⟨hh, fun i hi => by
    rcases Re.1 hi with h1 | rfl
    ·exact hw.cont i h1
    exact hc⟩
   have hlt1 := hw1.lt hV
   have hvh := hw.all hV t (Nat.le_refl _)
   obtain ⟨s1, s2, s3, s4, s5⟩ := DQ hV hvh hc.1
   refine DC.skip <| Fin.then <| DC.seq <| DC.block <| Zs ?_
   refine Zm ?_
   refine Zo (H1 rfl rfl rfl (by omega)) ?_
   refine Za ?_
   refine Zx <| Zs ?_
   iterate 2 refine Zm ?_
   refine Seq.rel0 rfl rfl (Am Qw rfl rfl rfl (fun w' hw => J3 (hA.keep hw) _)) ?_
   rintro _ rfl
   refine Za ?_
   refine Zx <| DC.seq <| Zs ?_
   iterate 2 refine Zm ?_
   refine Zo (AW rfl rfl rfl) ?_
   refine Zx ?_
   refine Zd (fun c8 => ?_) fun c8 => ?_
   ·refine DC.region ?_
    iterate 2 refine Zm ?_
    refine Seq.rel0 rfl rfl (Am Qv rfl rfl rfl (fun w' hw => J6 (hA.keep hw) _)) ?_
    rintro _ ⟨r, rfl, hr, _⟩
    have hout0 : (outs es (toV es (wI es h t)))[0]? = some (tw (wI es h t)) := by
     have h1 : ((outs es (toV es (wI es h t)))[0]?).getD (-1) = tw (wI es h t) := by
      unfold tw
      simpa using c8
     cases hq : (outs es (toV es (wI es h t)))[0]? with
     | none => rw [hq] at h1; have := hvh.tw.1; simp at h1; omega
     | some x => rw [hq] at h1; simpa using h1
    have hrr : r = wI es h (t + 1) := by
     show r = nxtH es (wI es h t)
     rw [Fc, hout0]
     simp only [Option.getD_some, if_true]
     exact hr _ 0 (by rw [hout0]; rfl)
    subst hrr
    refine Za ?_
    refine Zx <| DC.region ?_
    iterate 2 refine Zm ?_
    refine Zw (AM (cs := #[_]) rfl rfl Rt AN Cg rfl (by decide) (by decide) rfl rfl) fun g42 => ?_
    refine Seq.gen rfl rfl (AR rfl rfl rfl Rt AN E5 Cg rfl (by decide) (by decide) (fun w hw => hw.pick (.cons 1 rfl .nil)) (.inl ⟨_, _, rfl, Ai rfl⟩) rfl (BE [_] []) (by simp [C5]; omega)) ?_
    rintro v43 _ rfl
    refine Za ?_
    refine Seq.nil <| Fin.inBlock <| Fin.then <| DC.region ?_
    iterate 2 refine Zm ?_
    try (
     have hout0 : ((outs es (toV es (wI es h t)))[0]?).getD (-1) = wI es h (t + 1) := by
      show _ = nxtH es (wI es h t)
      rw [Fc, if_neg (by unfold tw; simpa using c8)]
     rw [hout0])
    refine Seq.rel0 rfl rfl (Am GL rfl rfl rfl (fun w' hw => CV (hA.keep hw) _)) ?_
    rintro _ rfl
    refine Za ?_
    refine Seq.nil ?_
    refine Fin.again ⟨t + 1, v43⟩ (by dsimp only; omega) hw1 ⟨rfl, rfl, rfl, rfl, rfl, trivial⟩ (.cons' 0 rfl (by dsimp only; rw [Hc, Bj]; rfl) .nil)
   refine DC.skip <| Fin.then <| DC.region ?_
   iterate 2 refine Zm ?_
   refine Zw (AM (cs := #[_]) rfl rfl Rt AN Cg rfl (by decide) (by decide) rfl rfl) fun g42 => ?_
   refine Seq.gen rfl rfl (AR rfl rfl rfl Rt AN E5 Cg rfl (by decide) (by decide) (fun w hw => hw.pick (.cons 1 rfl .nil)) (.inl ⟨_, _, rfl, Ai rfl⟩) rfl (BE [_] []) (by simp [C5]; omega)) ?_
   rintro v43 _ rfl
   refine Za ?_
   refine Seq.nil <| Fin.inBlock <| Fin.then <| DC.region ?_
   iterate 2 refine Zm ?_
   try (
    have hout0 : ((outs es (toV es (wI es h t)))[0]?).getD (-1) = wI es h (t + 1) := by
     show _ = nxtH es (wI es h t)
     rw [Fc, if_neg (by unfold tw; simpa using c8)]
    rw [hout0])
   refine Seq.rel0 rfl rfl (Am GL rfl rfl rfl (fun w' hw => CV (hA.keep hw) _)) ?_
   rintro _ rfl
   refine Za ?_
   refine Seq.nil ?_
   refine Fin.again ⟨t + 1, v43⟩ (by dsimp only; omega) hw1 ⟨rfl, rfl, rfl, rfl, rfl, trivial⟩ (.cons' 0 rfl (by dsimp only; rw [Hc, Bj]; rfl) .nil)
  refine DC.exit <| Ad <| Ad <| Ag <| Fin.then <| Zs ?_
  refine Zm ?_
  refine Za ?_
  refine Zx <| DC.ret ?_
  have hT : wayT es h = t := K7 ⟨hw, fun ⟨h1, h2⟩ => by first | (simp at c4; exact h2 c4) | (unfold degV at h1; simp at k4_4; omega)⟩
  refine Fin.weak (E' := [(4, _)]) (L' := [slc v 3 1 (ints (wayL es h t))]) ⟨rfl, trivial⟩ (.cons 0 rfl .nil) ?_
  refine Zh ?_
  unfold wayOf
  rw [hT]
 iterate 3 refine Zk ?_
 refine Zg ?_
 refine Zx ?_
 refine Ba rfl ?_
 refine DC.exit <| Ad <| Ad <| Ag <| Fin.then <| Zs ?_
 refine Zm ?_
 refine Za ?_
 refine Zx <| DC.ret ?_
 have hT : wayT es h = t := K7 ⟨hw, fun ⟨h1, h2⟩ => by first | (simp at c4; exact h2 c4) | (unfold degV at h1; simp at k4_4; omega)⟩
 refine Fin.weak (E' := [(4, _)]) (L' := [slc v 3 1 (ints (wayL es h t))]) ⟨rfl, trivial⟩ (.cons 0 rfl .nil) ?_
 refine Zh ?_
 unfold wayOf
 rw [hT]
/-- A slice of integers, its place written out. -/
def SlB (w : World) (v : Value) (xs : List Int) : Prop :=
 (∃ A c, v = .slice A 0 c ∧ xs = []) ∨ ∃ g off c, v = .slice (some ⟨g, off, none⟩) xs.length c ∧ xs.length ≤ c ∧ c ≤ 9223372036854775807 ∧ ∀ (j : Nat) x, xs[j]? = some x → w.cell? ⟨g, off + j, none⟩ = some (.int .i64 x)
section
variable {w0 w w' : World} {K : List Nat} {L F : List Chunk} {v : Value} {xs : List Int} {t : Nat}
theorem SlB.keep0 (h : SlB w0 v xs) (hw : Own w0 [] w L) : SlB w v xs := by
 rcases h with h | ⟨g, off, c, rfl, h1, h2, h3⟩
 ·exact .inl h
 refine .inr ⟨g, off, c, rfl, h1, h2, fun j x hx => ?_⟩
 have hc := h3 j x hx
 rw [hw.oldCell (World.block_lt_of_cell? w0 _ hc) (by simp)]; exact hc
theorem EA (hw : Own w0 K w (slc v t 1 (ints xs) :: F)) : SlB w v xs := by
 rcases BR hw with ⟨rfl, h, _⟩ | ⟨g, len, cap, sp, rfl, h1, h2, h3, h4, hO⟩
 ·exact .inl ⟨_, _, rfl, by cases xs; rfl; simp [ints] at h⟩
 simp at h1
 subst h1
 refine .inr ⟨g, 0, cap, rfl, h2, h3, fun j x hx => ?_⟩
 have := hO.holds _ (Ri ..)
 rw [cell_of_row w g _ _ t (0, 0) this]
 have hj := (Q9.1 hx).1
 rw [List.getElem?_toArray, Nat.zero_add, Rk (by simpa using hj), GC hx]
/-- A part of it. -/
theorem SlB.drop {A : Option Addr} {len c k : Nat} (h : SlB w (.slice A len c) xs) (hk : k ≤ len) : SlB w (.slice (if c = k then A else A.map (·.add (k * 1))) (len - k) (c - k)) (xs.drop k) := by
 rcases h with ⟨A', c', e, rfl⟩ | ⟨g, off, c', e, h1, h2, h3⟩
 ·cases e
  obtain rfl : k = 0 := by omega
  exact .inl ⟨_, _, rfl, by simp⟩
 injection e with e1 e2 e3
 subst e1 e2 e3
 by_cases hl : k = xs.length
 ·exact .inl ⟨_, _, by rw [hl, Nat.sub_self], by rw [hl, List.drop_length]⟩
 rw [if_neg (by omega)]
 refine .inr ⟨g, off + k, c - k, ?_, by rw [List.length_drop]; omega, by omega, fun j x hx => ?_⟩
 ·rw [List.length_drop]
  congr 1
  simp only [Option.map_some, Addr.add, Nat.mul_one]
  by_cases h0 : k = 0
  ·subst h0; simp
  rw [if_neg h0]
 rw [List.getElem?_drop] at hx
 rw [Nat.add_assoc]; exact h3 _ _ hx
theorem SlB.take {A : Option Addr} {len c k : Nat} (h : SlB w (.slice A len c) xs) (hl : len = xs.length) (hk : k ≤ len) : SlB w (.slice A k c) (xs.take k) := by
 rcases h with ⟨A', c', e, rfl⟩ | ⟨g, off, c', e, h1, h2, h3⟩
 ·cases e
  obtain rfl : k = 0 := by omega
  exact .inl ⟨_, _, rfl, by simp⟩
 injection e with e1 e2 e3
 subst e1 e2 e3
 refine .inr ⟨g, off, c, by rw [List.length_take, Nat.min_eq_left hk], by rw [List.length_take]; omega, h2, fun j x hx => ?_⟩
 rw [List.getElem?_take] at hx
 split at hx
 ·exact h3 j x hx
 cases hx
theorem SlB.slv (h : SlB w v xs) (hf : xs.length ≤ 17592186044416) : ∃ A c, v = .slice A xs.length c ∧ Rd w A (ints xs) := by
 rcases h with ⟨A, c, rfl, rfl⟩ | ⟨g, off, c, rfl, h1, h2, h3⟩
 ·exact ⟨A, c, rfl, fun j u h => by simp [ints] at h⟩
 refine ⟨_, c, rfl, fun j u hj => ⟨_, rfl, ?_⟩⟩
 unfold ints at hj
 rw [List.getElem?_map, Option.map_eq_some_iff] at hj
 obtain ⟨x, hx, rfl⟩ := hj
 have : (⟨g, off, none⟩ : Addr).add j = ⟨g, off + j, none⟩ := by
  unfold Addr.add
  by_cases h0 : j = 0
  ·subst h0; simp
  rw [if_neg h0]
 rw [this]; exact h3 j x hx
theorem Lq {vs : List Value} {n : Nat} (h : w'.ownsRow w.heap.size t 1 v n vs) (hl : vs.length = n) (hb : RowKit.Below w.heap.size w w') : Own w [] w' [slc v t 1 vs] := by
 subst hl
 have hB : ∀ g, g ∈ v.ownBlock.toList → w.heap.size ≤ g ∧ g < w'.heap.size := by
  intro g hg
  rcases h.2 with ⟨rfl, _⟩ | ⟨g', cap, cur, rfl, h1, h2, _⟩
  ·simp [Value.ownBlock] at hg
  simp [Value.ownBlock] at hg
  subst hg
  exact ⟨h1, (Rp.1 h2).1⟩
 refine ⟨hb.os, hb.tape, hb.output, .inl trivial, hb.size, fun k hk _ => hb.block k hk, ?_, fun g hg => .inr (hB g (by simpa [slc] using hg)).1, fun g hg => (hB g (by simpa [slc] using hg)).2, fun c hc => ?_⟩
 ·simp only [idsOf_cons, idsOf_nil, List.append_nil, slc]
  cases v.ownBlock <;> simp
 simp at hc; subst hc
 show w'.ownsRow 0 t 1 v (vs.length / 1) vs
 rw [Nat.div_one]
 refine ⟨h.1, ?_⟩
 rcases h.2 with h2 | ⟨g', cap, cur, e, h1, r⟩
 ·exact .inl h2
 exact .inr ⟨g', cap, cur, e, Nat.zero_le _, r⟩
theorem D3 (hv : SlB w v xs) (hl : xs.length ≤ 17592186044416) :
  Calls Tryz.prog 52 #[v] w (Ret w [] fun r L => L = [slc r 3 1 (ints xs)]) := by
 rcases hv with ⟨A, c, rfl, rfl⟩ | ⟨g, off, c, rfl, h1, h2, h3⟩
 ·cases A with
  | none =>
   refine (Tryz.slices_Clone_int_nil 0 c w).mono ?_
   rintro e w' ⟨rfl, rfl⟩
   exact ⟨_, _, rfl, rfl, AU (Own.start _ _)⟩
  | some a =>
   refine (Tryz.slices_Clone_int_zero a c w).mono ?_
   rintro e w' ⟨v', rfl, h1, _, h2⟩
   exact ⟨_, _, rfl, rfl, Lq h1 rfl h2⟩
 refine (Tryz.slices_Clone_int g off xs.length c xs w (Nat.le_refl _) (by omega) (fun j hj => ?_)).mono ?_
 ·rw [List.getD_eq_getElem?_getD, Q8 hj]
  exact h3 j _ (Q8 hj)
 rintro e w' ⟨v', rfl, h4, _, h5⟩
 rw [List.take_length] at h4
 exact ⟨_, _, rfl, rfl, Lq h4 (by simp) h5⟩
theorem Lr {g : Nat} {cs : Array Value} (hg : w.heap[g]? = some (.cells cs t (0, 0))) (f : Array Value → Array Value) (k : Nat) : Own w [g] (Sort.mapBlock (Sort.ahead w k) g f) [blk g t (f cs)] := by
 have hlt : g < w.heap.size := (Rp.1 hg).1
 refine ⟨rfl, rfl, rfl, .inl trivial, by simp [Sort.mapBlock, Sort.ahead], fun k hk hn => ?_, by simp [blk], fun x hx => ?_, fun x hx => ?_, fun c hc => ?_⟩
 ·simp at hn
  simp only [Sort.mapBlock, Sort.ahead, Array.getElem?_modify]
  rw [if_neg (by omega)]
 ·simp [blk] at hx; subst hx; exact .inl (by simp)
 ·simp [blk] at hx; subst hx; simpa [Sort.mapBlock, Sort.ahead] using hlt
 simp at hc; subst hc
 simp [blk, Sort.mapBlock, Sort.ahead, Array.getElem?_modify, hg, Sort.onCells]
theorem M6 {a b : List Int} {sp : List Value} (h : b.length = a.length) : Sort.putCells (Value.int .i64) 0 b.toArray (ints a ++ sp).toArray = (ints b ++ sp).toArray := by
 apply Array.ext_getElem?
 intro k
 unfold Sort.putCells
 rw [Array.getElem?_mapIdx]
 simp only [List.getElem?_toArray, List.size_toArray, Nat.zero_le, true_and, Nat.zero_add, Nat.sub_zero]
 by_cases hk : k < b.length
 ·rw [Rk (by simp; omega), Rk (by simp; omega)]
  simp [ints, hk, show k < a.length by omega]
 rw [Rl (by simp; omega), Rl (by simp; omega)]
 have hk' : ¬ k < a.length := by omega
 simp only [h, hk', if_false, Option.map_id_fun', id, ints_length]
theorem Hj (hO : Own w (idsOf [slc v 3 1 (ints xs)]) w [slc v 3 1 (ints xs)]) :
  Calls Tryz.prog 53 #[v] w (Ret w (idsOf [slc v 3 1 (ints xs)]) fun r M => M = [slc v 3 1 (ints xs.reverse)]) := by
 rcases BR hO with ⟨rfl, h, _⟩ | ⟨g, len, cap, sp, rfl, h1, h2, h3, h4, hb⟩
 ·obtain rfl : xs = [] := by cases xs; rfl; simp [ints] at h
  refine (Tryz.slices_Reverse_int_empty none 0 w).mono ?_
  rintro e w' ⟨rfl, rfl⟩
  exact ⟨_, _, rfl, rfl, hO⟩
 simp at h1
 subst h1
 have hg := hb.holds _ (Ri ..)
 refine (Tryz.slices_Reverse_int g 0 cap xs w (fun j hj => ?_) (by omega)).mono ?_
 ·have hj' : j < xs.length := by simpa using hj
  constructor
  ·rw [cell_of_row w g _ _ _ (0, 0) hg]
   rw [List.getElem?_toArray, Nat.zero_add, Rk (by simpa using hj')]
   simp [ints, hj']
  have hg' : w.heap[g]? = some (.cells (ints xs ++ sp).toArray 3 (0, 0)) := hg
  simp [World.frozen?, hg']
 rintro e w' ⟨rfl, k, rfl⟩
 refine ⟨_, _, rfl, rfl, ?_⟩
 have := Lr hg (Sort.putCells (Value.int .i64) 0 xs.reverse.toArray) k
 rw [M6 (by simp)] at this
 refine B3 (by simp) (by decide) h2 h3 (by simp at h4 ⊢; omega) ?_ this
 simp
end
end Go.Fl

namespace Go.Fl
open Go Go.Proofs
structure AbI where
 i : Nat
 zs : List Int
theorem C3 {w : World} {v : Value} {xs : List Int} (hv : SlB w v xs) (hl : xs.length ≤ 17592186044416) (hx : ∀ x, x ∈ xs → 0 ≤ x ∧ x ≤ 9223372036854775807) :
  Calls Tryz.prog 183 #[v] w (Ret w [] fun r L => L = [slc r 3 1 (ints (aboutL xs))]) := by
 refine Ao (args := [_]) (L := []) Tryz.func183 rfl Tryz.ntmps183 rfl (Own.start _ _) ?_
 refine Zs ?_
 refine Za ?_
 refine Zx <| Zs ?_
 refine Zm ?_
 refine Seq.rel rfl rfl (Am PB rfl rfl rfl (fun w' hw => D3 (hv.keep0 hw) hl)) ?_
 rintro vc _ rfl
 refine Za ?_
 refine Zx <| Zs ?_
 refine Zm ?_
 refine Seq.gen rfl rfl (AQ Qm rfl rfl rfl (Lc := [slc vc 3 1 (ints xs)]) (F := []) (.refl _) (fun k hk => hk) (fun w' hw => Hj hw.self)) ?_
 rintro v8 _ ⟨_, rfl, rfl⟩
 refine Zx <| DC.seq <| DC.seq ?_
 have hrl : xs.reverse.length = xs.length := List.length_reverse
 refine DC.slcs (i := 0) (xs := xs.reverse) rfl (by omega) ?_
 rintro A c rfl hA
 rw [hrl]
 refine DC.region ?_
 refine Zm ?_
 refine Zn Rt ?_
 refine Zm ?_
 refine Zx <| DC.block ?_
 refine DC.loop (ι := AbI) (fun j => j.i ≤ xs.length ∧ j.zs.length = xs.length ∧ ∀ (q : Nat), j.zs[q]? = if q < j.i then (xs.reverse[q]?).map tw else xs.reverse[q]?)
  (fun j => [(3, .slice A xs.length c), (10, .int .i64 xs.length), (11, .int .i64 j.i)])
  (fun j => [slc (.slice A xs.length c) 3 1 (ints j.zs)]) (fun j => xs.length - j.i) ⟨0, xs.reverse⟩ ⟨Nat.zero_le _, hrl, fun q => by rw [if_neg (Rs _)]⟩ ⟨rfl, rfl, rfl, trivial⟩ (.cons 0 rfl .nil) ?_
 rintro ⟨i, zs⟩ ⟨hi, hz, hq⟩
 dsimp only at hi hz hq ⊢
 refine Zs ?_
 refine Zc ?_
 refine Zx <| DC.seq ?_
 refine Zd (fun c4 => ?_) fun c4 => ?_
 ·have hlt : i < xs.length := by simpa using c4
  obtain ⟨ad, rfl⟩ := hA (fun e => by rw [e] at hrl; simp at hrl; omega)
  obtain ⟨y, hy⟩ : ∃ y, xs.reverse[i]? = some y := ⟨_, Q8 (by omega)⟩
  have hzy : zs[i]? = some y := by rw [hq, if_neg (Nat.lt_irrefl _)]; exact hy
  obtain ⟨hy0, hy1⟩ := hx y (List.mem_reverse.1 (Rc hy))
  refine DC.skip <| Fin.then <| DC.seq <| DC.block <| Zs ?_
  refine Zm ?_
  refine Za ?_
  refine Zx <| DC.region ?_
  iterate 2 refine Zm ?_
  refine Zo (Aw (ad' := ad.add i) rfl rfl rfl Rt AN (by omega) (by omega) rfl) ?_
  refine Zu (Ak rfl rfl AJ (BJ (i := 0) rfl hzy (by omega))) ?_
  refine Zo (H1 rfl rfl rfl (by omega)) ?_
  refine Zo (Aw (ad' := ad.add i) rfl rfl rfl Rt AN (by omega) (by omega) rfl) ?_
  refine Zy (Pi (i := 0) (j := i) rfl rfl rfl rfl AN (by omega)) ?_
  refine Seq.nil <| Fin.inBlock <| Fin.then <| DC.region ?_
  refine Zp ?_
  refine Zm ?_
  refine Seq.nil ?_
  refine Fin.again ⟨i + 1, zs.set i (tw y)⟩ (by dsimp only; omega) ⟨by dsimp only; omega, by simp [hz], fun q => ?_⟩ ⟨rfl, rfl, rfl, trivial⟩ (.cons 0 rfl .nil)
  dsimp only
  rw [List.getElem?_set]
  by_cases hqi : i = q
  ·subst hqi
   rw [if_pos rfl, if_pos (by omega), if_pos (by omega), hy]; rfl
  rw [if_neg hqi, hq]
  by_cases h1 : q < i
  ·rw [if_pos h1, if_pos (by omega)]
  rw [if_neg h1, if_neg (by omega)]
 refine DC.exit <| Ad <| Ad <| Ag <| Fin.then <| Zs ?_
 refine Zm ?_
 refine Za ?_
 refine Zx <| DC.ret ?_
 have hie : i = xs.length := by simp at c4; omega
 subst hie
 have hze : zs = aboutL xs := by
  apply List.ext_getElem?
  intro q
  rw [hq]
  unfold aboutL
  rw [List.getElem?_map]
  by_cases h1 : q < xs.length
  ·rw [if_pos h1]
  rw [if_neg h1, Rq (by omega)]; rfl
 refine Fin.weak (E' := [(2, _)]) (L' := [slc (.slice A xs.length c) 3 1 (ints zs)]) ⟨rfl, trivial⟩ (.cons 0 rfl .nil) ?_
 refine Zh ?_
 rw [hze]
/-- How the ends of a chain as it is written come of its ends. -/
def WrtR (a b : Int) (c : List Int) : Prop := ∃ p q, c[0]? = some p ∧ c[c.length - 1]? = some q ∧ (a = b → p = q) ∧ (a ≠ b → p = min a b ∧ q = max a b)
structure WrI where
 vl : Value
 ad : Addr
 l : List Int
 c : Nat
 L : List Chunk
 a : Int
 b : Int
structure WrE (es : List Pr) (w : World) (n : Nat) (j : WrI) : Prop where
 val : j.vl = .slice (some j.ad) j.l.length j.c
 rds : ∀ w', Own w [] w' j.L → Rd w' (some j.ad) (ints j.l) ∧ SlB w' j.vl j.l
 len : j.l.length = n
 all : AllH es j.l
 hd : ∃ x, j.l[0]? = some x ∧ fromV es x = j.a
 la : ∃ y, j.l[j.l.length - 1]? = some y ∧ toV es y = j.b
theorem FS {w : World} {L L' : List Chunk} {vl : Value} {ad : Addr} {l : List Int} {j : Nat} {x : Int} (h : ∀ w', Own w [] w' L' → Rd w' (some ad) (ints l) ∧ SlB w' vl l) (hp : ∀ w', Own w [] w' L → Own w [] w' L') (hj : l[j]? = some x) :
  Has w [] L (ad.add j) (.int .i64 x) := by
 intro w' hw
 obtain ⟨ad', e, hc⟩ := (h w' (hp w' hw)).1.int hj
 cases e; exact hc
theorem HX {w : World} {ad : Addr} {l : List Int} {n c t : Nat} (hf : l.length ≤ 17592186044416) :
  ∀ w', Own w [] w' [slc (.slice (some ad) n c) t 1 (ints l)] → Rd w' (some ad) (ints l) ∧ SlB w' (.slice (some ad) n c) l := by
 intro w' hw
 refine ⟨?_, EA hw⟩
 obtain ⟨A, cap, e, hr, _⟩ := Dj hw 0 rfl hf
 cases e; exact hr
theorem GV {es : List Pr} {l : List Int} {x y : Int} (ha : AllH es l) (hx : l[0]? = some x) (hy : l[l.length - 1]? = some y) :
  (∃ z, (aboutL l)[0]? = some z ∧ fromV es z = toV es y) ∧ ∃ z, (aboutL l)[(aboutL l).length - 1]? = some z ∧ toV es z = fromV es x := by
 have hp := (Q9.1 hx).1
 refine ⟨⟨tw y, ?_, FT (ha _ (Rc hy))⟩, ⟨tw x, ?_, La (ha _ (Rc hx))⟩⟩
 ·rw [Db hp, Nat.sub_zero, hy]; rfl
 rw [Bq, Db (by omega), show l.length - 1 - (l.length - 1) = 0 by omega, hx]; rfl
structure WrJ where
 i : Nat
 m : Nat
structure WrK where
 i : Nat
 v : Value
theorem GX {N : Int} {es : List Pr} {M : AdjM} {p : Option Addr} {w : World} {v : Value} {l : List Int} (hA : AV w N es M p) (hv : SlB w v l) (hne : l ≠ []) (hall : AllH es l) (hlk : Link es l) (hl : l.length ≤ 1000000000) :
  Calls Tryz.prog 161 #[.pointer p, v] w (Ret w [] fun r L => ∃ c, L = [slc r 3 1 (ints c)] ∧ c.length = l.length + 1 ∧
   ∀ x y, l[0]? = some x → l[l.length - 1]? = some y → WrtR (fromV es x) (toV es y) c) := by
 have hV := hA.vld
 have hfew := hV.few
 have hv' := hv
 obtain ⟨g, off, cap, rfl, hlc, hcm, hcell⟩ := hv.resolve_left (fun ⟨_, _, _, h⟩ => hne h)
 have hpos : 0 < l.length := List.length_pos_iff.2 hne
 obtain ⟨x0, hx0⟩ : ∃ x, l[0]? = some x := ⟨_, Q8 hpos⟩
 obtain ⟨y0, hy0⟩ : ∃ y, l[l.length - 1]? = some y := ⟨_, Q8 (by omega)⟩
 have hcL : ∀ {j : Nat} {x : Int}, l[j]? = some x → w.cell? ((⟨g, off, none⟩ : Addr).add j) = some (.int .i64 x) := fun hj => by rw [AS]; exact hcell _ _ hj
 refine Ao (args := [_, _]) (L := []) Tryz.func161 rfl Tryz.ntmps161 rfl (Own.start _ _) ?_
 refine Zs ?_
 refine Za ?_
 refine Zx <| DC.seq ?_
 refine AC (cl := [.q, .q, .q, .v, .r, .q, .q, .q, .q, .q, .q, .v, .r, .q, .q]) (A := [0, 0, 2, 6, 15, 0, 0, 0, 128, 384, 960, 1984, 4095, 8191, 16383]) (order := [0, 1, 2, 3, 4, 5, 6, 7, 8, 9, 10, 11, 12, 13, 14]) [] mixed (by kernel_rfl) (fun w hw => hw.pick .nil) ?_
 iterate 2 refine Ym ?_
 refine Yo rfl (Aw (ad' := (⟨g, off, none⟩ : Addr).add 0) rfl rfl rfl Rt AN (by omega) (by omega) rfl) ?_
 refine Ar rfl rfl rfl rfl (Ak rfl rfl AJ (AY (hcL hx0))) ?_
 refine Flow.rel0 rfl rfl rfl rfl (Am ER rfl rfl rfl (fun w' hw => BO (hA.keep hw) _)) ?_
 rintro _ rfl
 iterate 3 refine Ym ?_
 refine Yo rfl (CY rfl rfl Rt) ?_
 refine Yo rfl (Ce rfl rfl rfl (by omega)) ?_
 refine Yo rfl (Aw (ad' := (⟨g, off, none⟩ : Addr).add (l.length - 1)) rfl rfl rfl Rt AN (by omega) (by omega) (by rw [show ((l.length : Int) - 1).toNat = l.length - 1 by omega])) ?_
 refine Ar rfl rfl rfl rfl (Ak rfl rfl AJ (AY (hcL hy0))) ?_
 refine Flow.rel0 rfl rfl rfl rfl (Am GL rfl rfl rfl (fun w' hw => CV (hA.keep hw) _)) ?_
 rintro _ rfl
 refine Yo rfl (AF rfl rfl) ?_
 refine Yo rfl (AF rfl rfl) ?_
 refine Flow.end rfl ?_
 simp only [zq, zr]
 refine Fin.then ?_
 refine DC.cut (ι := WrI) (fun j => WrE es w l.length j ∧ (fromV es x0 = toV es y0 → j.a = j.b) ∧ (fromV es x0 ≠ toV es y0 → j.a = fromV es x0 ∧ j.b = toV es y0))
  (fun j => [(0, .pointer p), (1, j.vl), (5, .int .i64 j.a), (6, .int .i64 j.b)]) (fun j => j.L) ?first12 ?rest12
 case first12 =>
  refine Zs ?_
  iterate 2 refine Zm ?_
  refine Zo (AW rfl rfl rfl) ?_
  refine Zm ?_
  refine Seq.split 29 rfl (fun k2_3 => ?_) (fun k2_3 => ?_)
  ·refine Zm ?_
   refine Zm ?_
   refine Seq.rel0 rfl rfl (Am JE rfl rfl rfl (fun w' hw => Cj (hA.keep hw) _)) ?_
   rintro _ rfl
   refine Zo (AW rfl rfl rfl) ?_
   refine Zt ?_
   refine Zx ?_
   refine Zd (fun c2 => ?_) fun c2 => ?_
   ·refine Zs ?_
    refine Za ?_
    refine Zx <| DC.seq <| Zs ?_
    refine Zm ?_
    refine Zn Rt ?_
    refine Zm ?_
    refine Zx <| DC.block ?_
    refine DC.loop (ι := WrJ) (fun j => j.i ≤ l.length ∧ j.m < l.length) (fun j => [(0, .pointer p), (1, .slice (some ⟨g, off, none⟩) l.length cap), (7, .int .i64 j.m), (35, .slice (some ⟨g, off, none⟩) l.length cap), (36, .int .i64 l.length), (37, .int .i64 j.i)])
     (fun _ => []) (fun j => l.length - j.i) ⟨0, 0⟩ ⟨Nat.zero_le _, hpos⟩ ⟨rfl, rfl, rfl, rfl, rfl, rfl, trivial⟩ .nil ?_
    rintro ⟨i, m⟩ ⟨hi, hm⟩
    dsimp only at hi hm ⊢
    refine Zs ?_
    refine Zc ?_
    refine Zx <| DC.seq ?_
    refine Zd (fun c5 => ?_) fun c5 => ?_
    ·have hlt : i < l.length := by simpa using c5
     obtain ⟨x, hx⟩ : ∃ x, l[i]? = some x := ⟨_, Q8 hlt⟩
     obtain ⟨y, hy⟩ : ∃ y, l[m]? = some y := ⟨_, Q8 hm⟩
     refine DC.skip <| Fin.then <| DC.seq <| DC.block <| Zs ?_
     refine Zm ?_
     refine Zo (Aw (ad' := (⟨g, off, none⟩ : Addr).add i) rfl rfl rfl Rt AN (by omega) (by omega) rfl) ?_
     refine Zu (Ak rfl rfl AJ (AY (hcL hx))) ?_
     iterate 2 refine Za ?_
     refine Zx <| DC.seq ?_
     refine AC (cl := [.q, .q, .r, .q, .q, .q, .q, .v, .r, .q]) (A := [0, 0, 3, 0, 0, 0, 48, 112, 255, 511]) (order := [0, 1, 2, 3, 4, 5, 6, 7, 8, 9]) [] mixed (by kernel_rfl) (fun w hw => hw.pick .nil) ?_
     iterate 2 refine Ym ?_
     refine Flow.rel0 rfl rfl rfl rfl (Am ER rfl rfl rfl (fun w' hw => BO (hA.keep hw) _)) ?_
     rintro _ rfl
     iterate 3 refine Ym ?_
     refine Yo rfl (Aw (ad' := (⟨g, off, none⟩ : Addr).add m) rfl rfl rfl Rt AN (by omega) (by omega) rfl) ?_
     refine Ar rfl rfl rfl rfl (Ak rfl rfl AJ (AY (hcL hy))) ?_
     refine Flow.rel0 rfl rfl rfl rfl (Am ER rfl rfl rfl (fun w' hw => BO (hA.keep hw) _)) ?_
     rintro _ rfl
     refine Yo rfl (Gl rfl rfl rfl) ?_
     refine Flow.end rfl ?_
     simp only [zq, zr]
     refine Fin.then ?_
     refine Zd (fun c7 => ?_) fun c7 => ?_
     ·refine DC.region ?_
      refine Zm ?_
      refine Za ?_
      refine Seq.nil <| Fin.inBlock <| Fin.then <| DC.region ?_
      refine Zp ?_
      refine Zm ?_
      refine Seq.nil ?_
      refine Fin.again ⟨i + 1, i⟩ (by dsimp only; omega) ⟨by dsimp only; omega, by dsimp only; omega⟩ ⟨rfl, rfl, rfl, rfl, rfl, rfl, trivial⟩ .nil
     refine DC.skip <| Fin.inBlock <| Fin.then <| DC.region ?_
     refine Zp ?_
     refine Zm ?_
     refine Seq.nil ?_
     refine Fin.again ⟨i + 1, m⟩ (by dsimp only; omega) ⟨by dsimp only; omega, by dsimp only; omega⟩ ⟨rfl, rfl, rfl, rfl, rfl, rfl, trivial⟩ .nil
    refine DC.exit <| Ad <| Ad <| Ag <| Fin.then <| DC.seq ?_
    refine AC (cl := [.q, .q, .q, .r, .q, .q, .q, .g, .q]) (A := [0, 0, 3, 7, 0, 0, 48, 127, 255]) (order := [0, 1, 2, 3, 4, 5, 6, 7, 8]) [] mixed (by kernel_rfl) (fun w hw => hw.pick .nil) ?_
    iterate 2 refine Ym ?_
    refine Yo rfl (Dl (lo := m) rfl rfl rfl Rt AN (by omega)) ?_
    refine BK rfl rfl rfl rfl (Am PB rfl rfl rfl (fun w' hw => D3 ((hv'.keep0 hw).drop (by omega)) (by rw [List.length_drop]; omega))) ?_
    rintro vc _ rfl
    iterate 2 refine Ym ?_
    refine Yo rfl (Gk (hi := m) rfl rfl rfl Rt AN (by omega)) ?_
    refine CL (V := _) rfl rfl rfl rfl rfl (AR rfl rfl rfl Rt AN E5 Cg rfl (by decide) (by decide) (fun w hw => hw.pick (.cons 0 rfl .nil)) (Kc (vs := ints (l.take m)) (k := m) (m := 1) (A := some ⟨g, off, none⟩) (fun j u hj => ⟨_, rfl, by
     unfold ints at hj
     rw [List.getElem?_map, Option.map_eq_some_iff] at hj
     obtain ⟨x, hx, rfl⟩ := hj
     rw [List.getElem?_take] at hx
     split at hx
     ·exact hcL hx
     cases hx⟩) (by simp; omega) (by simp) (fun h => by cases h)) (by simp; omega) (BE (l.take m) []) (by simp; omega)) (fun v L' hC w hw => hw.pick (.nil)) ?_
    rintro v61 _ rfl
    refine Yo rfl (AF rfl rfl) ?_
    refine Flow.end rfl ?_
    simp only [zq, zr]
    refine Fin.then <| DC.seq ?_
    have hie : i = l.length := by simp at c5; omega
    rw [← Bj]
    have hl1 : (l.drop m ++ l.take m).length = l.length := by rw [List.length_append, List.length_drop, List.length_take]; omega
    refine DC.slcs (i := 0) (xs := l.drop m ++ l.take m) rfl (by omega) ?_
    rintro A1 c1 rfl hA1
    obtain ⟨ad1, rfl⟩ := hA1 (fun e => by rw [e] at hl1; simp at hl1; omega)
    obtain ⟨z, hz⟩ : ∃ z, l[m]? = some z := ⟨_, Q8 hm⟩
    have hz0 : (l.drop m ++ l.take m)[0]? = some z := by rw [Rk (by rw [List.length_drop]; omega), List.getElem?_drop]; exact hz
    refine DC.region ?_
    iterate 2 refine Zm ?_
    refine Zo (Aw (ad' := ad1.add 0) rfl rfl rfl Rt AN (by omega) (by omega) rfl) ?_
    refine Zu (Ak rfl rfl AJ (BJ (i := 0) rfl hz0 (by omega))) ?_
    refine Seq.rel0 rfl rfl (Am ER rfl rfl rfl (fun w' hw => BO (hA.keep hw) _)) ?_
    rintro _ rfl
    refine Za ?_
    refine Zx <| DC.region ?_
    refine Zm ?_
    refine Za ?_
    refine Seq.nil ?_
    have heq : fromV es x0 = toV es y0 := by first | simpa using k2_3 | (simp at k2_3; exact k2_3)
    refine AO ⟨.slice (some ad1) (l.drop m ++ l.take m).length c1, ad1, l.drop m ++ l.take m, c1, [slc (.slice (some ad1) (l.drop m ++ l.take m).length c1) 3 1 (ints (l.drop m ++ l.take m))], fromV es z, fromV es z⟩
     ⟨⟨rfl, HX (by omega), hl1, fun x hx => ?_, ⟨z, hz0, rfl⟩, ?_⟩, fun _ => rfl, fun h => absurd heq h⟩ ⟨rfl, rfl, rfl, rfl, trivial⟩ (.cons 0 rfl .nil)
    ·rcases List.mem_append.1 hx with hx | hx
     ·exact hall x (List.mem_of_mem_drop hx)
     exact hall x (List.mem_of_mem_take hx)
    dsimp only
    rw [hl1]
    by_cases h0 : m = 0
    ·subst h0
     have hzx : z = x0 := by rw [hz] at hx0; exact Option.some.inj hx0
     exact ⟨y0, by simpa using hy0, by rw [hzx]; exact heq.symm⟩
    obtain ⟨y, hy⟩ : ∃ y, l[m - 1]? = some y := ⟨_, Q8 (by omega)⟩
    refine ⟨y, ?_, (hlk (m - 1) y z hy (by rw [← hz]; congr 1; omega)).symm⟩
    rw [Rl (by rw [List.length_drop]; omega), List.length_drop, List.getElem?_take, if_pos (by omega), ← hy]
    congr 1; omega
   refine DC.skip ?_
   refine AO ⟨.slice (some ⟨g, off, none⟩) l.length cap, ⟨g, off, none⟩, l, cap, [], fromV es x0, toV es y0⟩
    ⟨⟨rfl, fun w' hw => ⟨?_, hv'.keep0 hw⟩, rfl, hall, ⟨x0, hx0, rfl⟩, ⟨y0, hy0, rfl⟩⟩, fun h => h, fun _ => ⟨rfl, rfl⟩⟩ ⟨rfl, rfl, rfl, rfl, trivial⟩ .nil
   obtain ⟨A, c, e, hr⟩ := (hv'.keep0 hw).slv (by omega)
   cases e; exact hr
  iterate 4 refine Zk ?_
  refine Zg ?_
  refine Zx ?_
  refine Ba rfl ?_
  refine DC.skip ?_
  refine AO ⟨.slice (some ⟨g, off, none⟩) l.length cap, ⟨g, off, none⟩, l, cap, [], fromV es x0, toV es y0⟩
   ⟨⟨rfl, fun w' hw => ⟨?_, hv'.keep0 hw⟩, rfl, hall, ⟨x0, hx0, rfl⟩, ⟨y0, hy0, rfl⟩⟩, fun h => h, fun _ => ⟨rfl, rfl⟩⟩ ⟨rfl, rfl, rfl, rfl, trivial⟩ .nil
  obtain ⟨A, c, e, hr⟩ := (hv'.keep0 hw).slv (by omega)
  cases e; exact hr
 rintro ⟨vl, ad, l1, c1, L1, a1, b1⟩ ⟨⟨hval, hrds, hlen, hall1, ⟨x1, hx1, hxa⟩, ⟨y1, hy1, hyb⟩⟩, hends⟩
 dsimp only at hval hrds hlen hall1 hx1 hxa hy1 hyb hends ⊢
 subst hval hxa hyb
 refine DC.cut (ι := WrI) (fun j => WrE es w l.length j ∧ (fromV es x0 = toV es y0 → j.a = j.b) ∧ (fromV es x0 ≠ toV es y0 → j.a = min (fromV es x0) (toV es y0) ∧ j.b = max (fromV es x0) (toV es y0)))
  (fun j => [(0, .pointer p), (1, j.vl)]) (fun j => j.L) ?first14 ?rest14
 case first14 =>
  refine DC.seq ?_
  refine AC (cl := [.q, .q, .q, .q, .q, .q, .q, .q, .q, .q, .q, .v, .r, .q, .q, .q, .q, .q, .q, .v, .r, .q, .q, .q]) (A := [0, 0, 3, 7, 15, 15, 63, 127, 255, 255, 767, 1791, 4095, 255, 255, 255, 33023, 98559, 246015, 508159, 1048575, 2097151, 4194303, 8388607]) (order := [0, 1, 2, 3, 4, 5, 6, 7, 8, 9, 10, 11, 12, 13, 14, 15, 16, 17, 18, 19, 20, 21, 22, 23]) [] mixed (by kernel_rfl) (fun w hw => hw.pick .nil) ?_
  iterate 2 refine Ym ?_
  refine Yo rfl (Bx rfl rfl rfl) ?_
  refine Ym ?_
  refine Flow.split 71 rfl (fun k13_3 => ?_) (fun k13_3 => ?_)
  ·refine Yk ?_
   iterate 18 refine Yk ?_
   refine Yo rfl (A7 rfl rfl rfl) ?_
   refine Flow.end rfl ?_
   simp only [zq, zr]
   refine Fin.then ?_
   refine AG rfl ?_
   refine DC.region ?_
   refine Zm ?_
   refine Seq.rel rfl rfl (Am LK rfl rfl rfl (fun w' hw => C3 (hrds w' hw).2 (by omega) (fun x hx => by have := hall1 x hx; obtain ⟨h0, h1⟩ := this; omega))) ?_
   rintro v93 _ rfl
   refine Za ?_
   refine Seq.nil ?_
   refine Fin.slcs (i := 0) (xs := aboutL l1) rfl (by rw [Bq]; omega) ?_
   rintro A3 c3 rfl hA3
   obtain ⟨ad3, rfl⟩ := hA3 (fun e => by have := congrArg List.length e; rw [Bq] at this; simp at this; rw [this] at hx1; simp at hx1)
   obtain ⟨e1, e2⟩ := GV hall1 hx1 hy1
   refine AO ⟨.slice (some ad3) (aboutL l1).length c3, ad3, aboutL l1, c3, [slc (.slice (some ad3) (aboutL l1).length c3) 3 1 (ints (aboutL l1))], toV es y1, fromV es x1⟩
    ⟨⟨rfl, HX (by rw [Bq]; omega), by rw [Bq]; exact hlen, Fs hall1, e1, e2⟩, fun h => (hends.1 h).symm, fun h => ?_⟩ ⟨rfl, rfl, trivial⟩ (.cons 0 rfl .nil)
   obtain ⟨q1, q2⟩ := hends.2 h
   dsimp only
   simp at k13_3
   omega
  iterate 2 refine Ym ?_
  refine Yo rfl (AW rfl rfl rfl) ?_
  refine Ym ?_
  refine Flow.split 75 rfl (fun k13_7 => ?_) (fun k13_7 => ?_)
  ·refine Ym ?_
   refine Ym ?_
   refine Yo rfl (Aw (ad' := ad.add 0) rfl rfl rfl Rt AN (by omega) (by omega) rfl) ?_
   refine Ar rfl rfl rfl rfl (Ak rfl rfl AJ (FS hrds (fun _ h => h) hx1)) ?_
   refine Flow.rel0 rfl rfl rfl rfl (Am GL rfl rfl rfl (fun w' hw => CV (hA.keep hw) _)) ?_
   rintro _ rfl
   iterate 3 refine Ym ?_
   refine Yo rfl (CY rfl rfl Rt) ?_
   refine Yo rfl (Ce rfl rfl rfl (by omega)) ?_
   refine Yo rfl (Aw (ad' := ad.add (l1.length - 1)) rfl rfl rfl Rt AN (by omega) (by omega) (by rw [show ((l1.length : Int) - 1).toNat = l1.length - 1 by omega])) ?_
   refine Ar rfl rfl rfl rfl (Ak rfl rfl AJ (FS hrds (fun _ h => h) hy1)) ?_
   refine Flow.rel0 rfl rfl rfl rfl (Am ER rfl rfl rfl (fun w' hw => BO (hA.keep hw) _)) ?_
   rintro _ rfl
   refine Yo rfl (Bx rfl rfl rfl) ?_
   refine Yo rfl (A7 rfl rfl rfl) ?_
   refine Yo rfl (Bc rfl rfl rfl) ?_
   refine Flow.end rfl ?_
   simp only [zq, zr]
   refine Fin.then ?_
   refine Zd (fun c13 => ?_) fun c13 => ?_
   ·refine DC.region ?_
    refine Zm ?_
    refine Seq.rel rfl rfl (Am LK rfl rfl rfl (fun w' hw => C3 (hrds w' hw).2 (by omega) (fun x hx => by have := hall1 x hx; obtain ⟨h0, h1⟩ := this; omega))) ?_
    rintro v93 _ rfl
    refine Za ?_
    refine Seq.nil ?_
    refine Fin.slcs (i := 0) (xs := aboutL l1) rfl (by rw [Bq]; omega) ?_
    rintro A3 c3 rfl hA3
    obtain ⟨ad3, rfl⟩ := hA3 (fun e => by have := congrArg List.length e; rw [Bq] at this; simp at this; rw [this] at hx1; simp at hx1)
    obtain ⟨e1, e2⟩ := GV hall1 hx1 hy1
    refine AO ⟨.slice (some ad3) (aboutL l1).length c3, ad3, aboutL l1, c3, [slc (.slice (some ad3) (aboutL l1).length c3) 3 1 (ints (aboutL l1))], toV es y1, fromV es x1⟩
     ⟨⟨rfl, HX (by rw [Bq]; omega), by rw [Bq]; exact hlen, Fs hall1, e1, e2⟩, fun h => (hends.1 h).symm, fun h => ?_⟩ ⟨rfl, rfl, trivial⟩ (.cons 0 rfl .nil)
    obtain ⟨q1, q2⟩ := hends.2 h
    dsimp only
    simp at k13_3
    simp at k13_7; omega
   refine DC.skip ?_
   refine AO ⟨.slice (some ad) l1.length c1, ad, l1, c1, L1, fromV es x1, toV es y1⟩
    ⟨⟨rfl, hrds, hlen, hall1, ⟨x1, hx1, rfl⟩, ⟨y1, hy1, rfl⟩⟩, hends.1, fun h => ?_⟩ ⟨rfl, rfl, trivial⟩ (Pick.all _)
   obtain ⟨q1, q2⟩ := hends.2 h
   dsimp only
   simp at k13_3
   omega
  iterate 14 refine Yk ?_
  refine Yo rfl (Bc rfl rfl rfl) ?_
  refine Yo rfl (Bc rfl rfl rfl) ?_
  refine Flow.end rfl ?_
  simp only [zq, zr]
  refine Fin.then ?_
  refine Ba rfl ?_
  refine DC.skip ?_
  refine AO ⟨.slice (some ad) l1.length c1, ad, l1, c1, L1, fromV es x1, toV es y1⟩
   ⟨⟨rfl, hrds, hlen, hall1, ⟨x1, hx1, rfl⟩, ⟨y1, hy1, rfl⟩⟩, hends.1, fun h => ?_⟩ ⟨rfl, rfl, trivial⟩ (Pick.all _)
  obtain ⟨q1, q2⟩ := hends.2 h
  dsimp only
  simp at k13_3
  omega
 rintro ⟨vl, ad2, l2, c2, L2, a2, b2⟩ ⟨⟨hval, hrds2, hlen2, hall2, ⟨x2, hx2, hxa⟩, ⟨y2, hy2, hyb⟩⟩, hends2⟩
 dsimp only at hval hrds2 hlen2 hall2 hx2 hxa hy2 hyb hends2 ⊢
 subst hval hxa hyb
 refine Zs ?_
 iterate 2 refine Zm ?_
 refine Zo (Aw (ad' := ad2.add 0) rfl rfl rfl Rt AN (by omega) (by omega) rfl) ?_
 refine Zu (Ak rfl rfl AJ (FS hrds2 (fun _ h => h) hx2)) ?_
 refine Seq.rel0 rfl rfl (Am ER rfl rfl rfl (fun w' hw => BO (hA.keep hw) _)) ?_
 rintro _ rfl
 refine Zw (AM (cs := #[_]) rfl rfl Rt AN Cg rfl (by decide) (by decide) rfl rfl) fun g99 => ?_
 refine Za ?_
 refine Zx <| DC.seq <| Zs ?_
 refine Zm ?_
 refine Zn Rt ?_
 refine Zm ?_
 refine Zx <| DC.block ?_
 refine DC.own (M := slc (.slice (some ⟨g99, 0, none⟩) 1 1) 3 1 (ints [fromV es x2]) :: L2) (fun w hw => B3 (len := 1) (cap := 1) rfl (by decide) (by omega) (by omega) rfl rfl hw) ?_
 refine DC.loop (ι := WrK) (fun j => j.i ≤ l2.length)
  (fun j => [(0, .pointer p), (10, j.v), (100, .slice (some ad2) l2.length c2), (101, .int .i64 l2.length), (102, .int .i64 j.i)])
  (fun j => slc j.v 3 1 (ints (fromV es x2 :: (l2.take j.i).map (toV es))) :: L2) (fun j => l2.length - j.i) ⟨0, _⟩ (Nat.zero_le _) ⟨rfl, rfl, rfl, rfl, rfl, trivial⟩ (.cons 0 rfl (Pick.all _)) ?_
 rintro ⟨i, v⟩ hi
 dsimp only at hi ⊢
 refine Zs ?_
 refine Zc ?_
 refine Zx <| DC.seq ?_
 refine Zd (fun c17 => ?_) fun c17 => ?_
 ·have hlt : i < l2.length := by simpa using c17
  obtain ⟨x, hx⟩ : ∃ x, l2[i]? = some x := ⟨_, Q8 hlt⟩
  refine DC.skip <| Fin.then <| DC.seq <| DC.block <| Zs ?_
  refine Zo (Aw (ad' := ad2.add i) rfl rfl rfl Rt AN (by omega) (by omega) rfl) ?_
  refine Zu (Ak rfl rfl AJ (FS hrds2 (fun _ h => h.sub (Rg ..)) hx)) ?_
  refine Za ?_
  refine Zx <| DC.region ?_
  iterate 3 refine Zm ?_
  refine Seq.rel0 rfl rfl (Am GL rfl rfl rfl (fun w' hw => CV (hA.keep hw) _)) ?_
  rintro _ rfl
  refine Zw (AM (cs := #[_]) rfl rfl Rt AN Cg rfl (by decide) (by decide) rfl rfl) fun g110 => ?_
  refine Seq.gen rfl rfl (AR rfl rfl rfl Rt AN E5 Cg rfl (by decide) (by decide) (F := L2) (fun w hw => hw.sub (Rg ..)) (.inl ⟨_, _, rfl, Ai rfl⟩) rfl (BE [_] []) (by simp; omega)) ?_
  rintro v111 _ rfl
  refine Za ?_
  refine Seq.nil <| Fin.inBlock <| Fin.then <| DC.region ?_
  refine Zp ?_
  refine Zm ?_
  refine Seq.nil ?_
  refine Fin.again ⟨i + 1, v111⟩ (by dsimp only; omega) (by dsimp only; omega) ⟨rfl, rfl, rfl, rfl, rfl, trivial⟩ (.cons' 0 rfl (by dsimp only; rw [List.take_add_one, hx]; simp [ints]) (Pick.all _))
 refine DC.exit <| Ad <| Ad <| Ag <| Fin.then <| Zs ?_
 refine Zm ?_
 refine Za ?_
 refine Zx <| DC.ret ?_
 have hie : i = l2.length := by simp at c17; omega
 subst hie
 rw [List.take_length]
 refine Fin.weak (E' := [(4, _)]) (L' := [slc v 3 1 (ints (fromV es x2 :: l2.map (toV es)))]) ⟨rfl, trivial⟩ (.cons 0 rfl .nil) ?_
 refine Zh ?_
 refine ⟨_, rfl, by simp [hlen2], fun x y hx hy => ?_⟩
 rw [hx0] at hx
 rw [hy0] at hy
 cases hx; cases hy
 refine ⟨fromV es x2, toV es y2, rfl, ?_, hends2⟩
 have : (fromV es x2 :: l2.map (toV es)).length - 1 = (l2.length - 1) + 1 := by simp; omega
 rw [this, List.getElem?_cons_succ, List.getElem?_map, hy2]; rfl
theorem Fk {w0 : World} {K : List Nat} {L : List Chunk} {i t l c : Nat} {ad : Addr} {xs : List Int} (hi : L[i]? = some (slc (.slice (some ad) l c) t 1 (ints xs))) (hf : xs.length ≤ 17592186044416) : Hass w0 K L ad (ints xs) := by
 intro w hw
 obtain ⟨A, cap, e, hr, _⟩ := Dj hw i hi hf
 cases e
 intro j u hj
 obtain ⟨ad', e, hc⟩ := hr j u hj
 cases e; exact hc
theorem IG {N : Int} {es : List Pr} {M : AdjM} {p : Option Addr} {w : World} {e : Nat} (hA : AV w N es M p) (he : e < es.length) :
  Calls Tryz.prog 160 #[.pointer p, .int .i64 e] w (Ret w [] fun r L => L = [slc r 3 1 (ints (chainOf es e))]) := by
 have hV := hA.vld
 have hfew := hV.few
 have hle := De hV (D5 he)
 have hlo := De hV (Dg he)
 have hpe := List.length_pos_iff.2 (CM (es := es) (2 * e))
 have hpo := List.length_pos_iff.2 (CM (es := es) (2 * e + 1))
 have hlast : (wayOf es (2 * e))[(wayOf es (2 * e)).length - 1]? = some (wI es (2 * e) (wayT es (2 * e))) := by rw [← List.getLast?_eq_getElem?, Ei]
 refine Ao (args := [_, _]) (L := []) Tryz.func160 rfl Tryz.ntmps160 rfl (Own.start _ _) ?_
 refine Zs ?_
 refine Za ?_
 refine Zx <| Zs ?_
 iterate 2 refine Zm ?_
 refine Zo (Ch rfl rfl rfl (by omega)) ?_
 refine Seq.rel rfl rfl (Am NO rfl rfl rfl (fun w' hw => E6 (hA.keep hw) (D5 he))) ?_
 rintro v5 _ rfl
 refine Za ?_
 refine Zx <| DC.seq <| DC.seq ?_
 refine DC.slcs (i := 0) (xs := wayOf es (2 * e)) rfl (by omega) ?_
 rintro A5 c5 rfl hA5
 obtain ⟨ad5, rfl⟩ := hA5 (CM _)
 refine DC.region ?_
 iterate 3 refine Zm ?_
 refine Zn Rt ?_
 refine Zo (Ce rfl rfl rfl (by omega)) ?_
 refine Zo (Aw (ad' := ad5.add ((wayOf es (2 * e)).length - 1)) rfl rfl rfl Rt AN (by omega) (by omega) (by rw [show (((wayOf es (2 * e)).length : Int) - 1).toNat = (wayOf es (2 * e)).length - 1 by omega])) ?_
 refine Zu (Ak rfl rfl AJ (BJ (i := 0) rfl hlast (by omega))) ?_
 refine Seq.rel0 rfl rfl (Am GL rfl rfl rfl (fun w' hw => CV (hA.keep hw) _)) ?_
 rintro _ rfl
 iterate 2 refine Zm ?_
 refine Zo (Ch rfl rfl rfl (by omega)) ?_
 refine Seq.rel0 rfl rfl (Am ER rfl rfl rfl (fun w' hw => BO (hA.keep hw) _)) ?_
 rintro _ rfl
 refine Zo (AW rfl rfl rfl) ?_
 refine Zm ?_
 refine Seq.split 24 rfl (fun k2_13 => ?_) (fun k2_13 => ?_)
 ·refine Zm ?_
  iterate 2 refine Zm ?_
  refine Zo (Ch rfl rfl rfl (by omega)) ?_
  refine Seq.rel0 rfl rfl (Am ER rfl rfl rfl (fun w' hw => BO (hA.keep hw) _)) ?_
  rintro _ rfl
  refine Seq.rel0 rfl rfl (Am JE rfl rfl rfl (fun w' hw => Cj (hA.keep hw) _)) ?_
  rintro _ rfl
  refine Zo (AW rfl rfl rfl) ?_
  refine Zt ?_
  refine Zx ?_
  refine Zd (fun c2 => ?_) fun c2 => ?_
  ·refine Zs ?_
   refine Zm ?_
   refine Za ?_
   refine Zx <| DC.ret <| Aa ?_
   refine Fin.weak (E' := [(4, _)]) (L' := [slc (.slice (some ad5) (wayOf es (2 * e)).length c5) 3 1 (ints (wayOf es (2 * e)))]) ⟨rfl, trivial⟩ (.cons 0 rfl .nil) ?_
   refine Zh ?_
   have hfree : FreeC es e := ⟨by simpa using k2_13, by simp at c2; unfold degV; omega⟩
   unfold chainOf
   rw [if_pos hfree]
  have hfree : ¬ FreeC es e := fun ⟨h1, h2⟩ => by
   simp at c2
   unfold degV at h2
   exact c2 (by exact_mod_cast h2)
  refine DC.skip <| Fin.then <| DC.seq ?_
  have hfree : ¬ FreeC es e := fun ⟨h1, h2⟩ => by
   first
   | (simp at k2_13; exact k2_13 h1)
   | (simp at c2; unfold degV at h2; omega)
  refine DC.region ?_
  iterate 2 refine Zm ?_
  refine Zo (Ch rfl rfl rfl (by omega)) ?_
  refine Zp ?_
  refine Seq.rel rfl rfl (Am NO rfl rfl rfl (fun w' hw => E6 (hA.keep hw) (Dg he))) ?_
  rintro v6 _ rfl
  refine Za ?_
  refine Zx <| DC.seq ?_
  refine DC.slcs (i := 0) (xs := wayOf es (2 * e + 1)) rfl (by omega) ?_
  rintro A6 c6 rfl hA6
  obtain ⟨ad6, rfl⟩ := hA6 (CM _)
  refine DC.region ?_
  refine Zm ?_
  refine Zo (Dl (lo := 1) rfl rfl rfl Rt AN (by omega)) ?_
  refine Seq.rel rfl rfl (Am LK rfl rfl rfl (fun w' hw => C3 ((EA hw).drop (k := 1) (by omega)) (by rw [List.length_drop]; omega) (fun x hx => by
   have := Ez hV (BM hV (Dg he)).way x (List.mem_of_mem_drop hx)
   obtain ⟨h0, h1⟩ := this; omega))) ?_
  rintro v41 _ rfl
  refine Zm ?_
  refine Seq.gen rfl rfl (AR rfl rfl rfl Rt AN E5 Cg rfl (by decide) (by decide) (fun w hw => hw.pick (.cons 0 rfl .nil)) (.inl ⟨_, _, rfl, Fk (i := 2) rfl (by omega)⟩) (by simp) (BE _ []) (by simp [Bq]; omega)) ?_
  rintro v43 _ rfl
  refine Za ?_
  refine Zx <| DC.ret ?_
  refine Fin.weak (E' := [(4, _)]) (L' := [slc v43 3 1 (ints (aboutL ((wayOf es (2 * e + 1)).drop 1)) ++ ints (wayOf es (2 * e)))]) ⟨rfl, trivial⟩ (.cons 0 rfl .nil) ?_
  refine Zh ?_
  unfold chainOf
  rw [if_neg hfree, Bj, List.drop_one]
 iterate 7 refine Zk ?_
 refine Zg ?_
 refine Zx ?_
 refine Ba rfl ?_
 refine DC.skip <| Fin.then <| DC.seq ?_
 have hfree : ¬ FreeC es e := fun ⟨h1, h2⟩ => by
  first
  | (simp at k2_13; exact k2_13 h1)
  | (simp at c2; unfold degV at h2; omega)
 refine DC.region ?_
 iterate 2 refine Zm ?_
 refine Zo (Ch rfl rfl rfl (by omega)) ?_
 refine Zp ?_
 refine Seq.rel rfl rfl (Am NO rfl rfl rfl (fun w' hw => E6 (hA.keep hw) (Dg he))) ?_
 rintro v6 _ rfl
 refine Za ?_
 refine Zx <| DC.seq ?_
 refine DC.slcs (i := 0) (xs := wayOf es (2 * e + 1)) rfl (by omega) ?_
 rintro A6 c6 rfl hA6
 obtain ⟨ad6, rfl⟩ := hA6 (CM _)
 refine DC.region ?_
 refine Zm ?_
 refine Zo (Dl (lo := 1) rfl rfl rfl Rt AN (by omega)) ?_
 refine Seq.rel rfl rfl (Am LK rfl rfl rfl (fun w' hw => C3 ((EA hw).drop (k := 1) (by omega)) (by rw [List.length_drop]; omega) (fun x hx => by
  have := Ez hV (BM hV (Dg he)).way x (List.mem_of_mem_drop hx)
  obtain ⟨h0, h1⟩ := this; omega))) ?_
 rintro v41 _ rfl
 refine Zm ?_
 refine Seq.gen rfl rfl (AR rfl rfl rfl Rt AN E5 Cg rfl (by decide) (by decide) (fun w hw => hw.pick (.cons 0 rfl .nil)) (.inl ⟨_, _, rfl, Fk (i := 2) rfl (by omega)⟩) (by simp) (BE _ []) (by simp [Bq]; omega)) ?_
 rintro v43 _ rfl
 refine Za ?_
 refine Zx <| DC.ret ?_
 refine Fin.weak (E' := [(4, _)]) (L' := [slc v43 3 1 (ints (aboutL ((wayOf es (2 * e + 1)).drop 1)) ++ ints (wayOf es (2 * e)))]) ⟨rfl, trivial⟩ (.cons 0 rfl .nil) ?_
 refine Zh ?_
 unfold chainOf
 rw [if_neg hfree, Bj, List.drop_one]
open Classical
theorem Iz {w0 w : World} {K : List Nat} {L : List Chunk} {N : Int} {es : List Pr} {M : AdjM} (hw : Own w0 K w L) (hp : Pick L (adjL M)) (hP : AdjP N es M) : AV w N es M (some ⟨M.gp, 0, none⟩) := by
 have h := hw.pick hp
 unfold adjL at h
 have h0 := h.holds _ (Ri ..)
 have h1 := h.holds _ (Rm _ (Ri ..))
 have h2 := h.holds _ (Rm _ (Rm _ (Ri ..)))
 have h3 := h.holds _ (Rm _ (Rm _ (Rm _ (Ri ..))))
 have h4 := h.holds _ (Rm _ (Rm _ (Rm _ (Rm _ (Ri ..)))))
 exact .at ⟨h0, h1, h2, h3, h4⟩ hP
/-- The chains that lie before us are those of the first k edges. -/
structure ChR (es : List Pr) (k : Nat) (cs : RL) : Prop where
 len : cs.length = (selU es k).length
 at' : ∀ (j : Nat) e p, (selU es k)[j]? = some e → cs[j]? = some p → WrtR (endA es e) (endB es e) p.2 ∧ 2 ≤ p.2.length ∧ p.2.length ≤ es.length * 4 + 1
theorem ChR.next {es : List Pr} {k : Nat} {cs : RL} {p : Value × List Int} (h : ChR es k cs) (hs : selU es (k + 1) = selU es k ++ [k]) (hp : WrtR (endA es k) (endB es k) p.2 ∧ 2 ≤ p.2.length ∧ p.2.length ≤ es.length * 4 + 1) : ChR es (k + 1) (cs ++ [p]) := by
 refine ⟨by rw [hs]; simp [h.len], fun j e q hj hq => ?_⟩
 rw [hs] at hj
 by_cases hlt : j < cs.length
 ·rw [Rk hlt] at hq
  rw [Rk (by rw [← h.len]; exact hlt)] at hj
  exact h.at' j e q hj hq
 rw [Rl (by omega)] at hq
 rw [Rl (by rw [← h.len]; omega), ← h.len] at hj
 have : j - cs.length = 0 := by
  have := (Q9.1 hq).1
  simp at this; omega
 rw [this] at hj hq
 simp at hj hq
 subst hj hq
 exact hp
structure ChI where
 i : Nat
 f : Nat → Bool
 cs : RL
 v : Value
structure ChJ where
 j : Nat
 g : Nat → Bool
theorem IE {N : Int} {es : List Pr} {va : Value} {w : World} (hg : PrV w va es) (hV : Vld N es) :
  Calls Tryz.prog 127 #[.agg #[.int .i64 N, va]] w (Ret w [] fun r M => ∃ v cs, r = .tuple #[v, .int .i64 0] ∧ ChR es es.length cs ∧ M = slc v 44 1 (rowsV cs) :: rowsC 3 cs) := by
 obtain ⟨A, cap, rfl, hr, hlc, hcm, hle⟩ := hg
 have hfew := hV.few
 refine Ao (args := [_]) (L := []) Tryz.func127 rfl Tryz.ntmps127 rfl (Own.start _ _) ?_
 refine Zs ?_
 refine Zw (AX rfl rfl rfl) fun g1 => ?_
 iterate 2 refine Za ?_
 refine Zx <| Zs ?_
 refine Zu (Aq (vs := [_, _]) rfl rfl Bs Bd rfl (Ai rfl)) ?_
 refine Seq.rel rfl rfl (Am O8 rfl rfl rfl (fun w' hw => HK N es A cap w' (hr.keep0 hw) (by omega))) ?_
 intro v14 L14 hC14
 obtain ⟨_, M, hP, rfl, rfl⟩ := hC14.resolve_left (fun h => h.1 hV)
 simp only [adjL, List.cons_append, List.nil_append]
 refine Zm ?_
 iterate 2 refine Ze ?_
 iterate 2 refine Za ?_
 refine Zx <| DC.seq <| Zs ?_
 refine Zm ?_
 refine Zo (BQ rfl rfl rfl) ?_
 refine Zx ?_
 refine Zd (fun c2 => ?_) fun c2 => ?_
 ·refine Zs ?_
  refine Zm ?_
  iterate 2 refine Za ?_
  refine Zx <| DC.ret <| Aa ?_
  refine AI (.inl rfl) rfl rfl rfl ?_
  simp at c2
 refine DC.skip <| Fin.then <| Zs ?_
 refine Zf Br ?_
 refine Zl B9 ?_
 refine Zn Ru ?_
 refine Zw (Cb (k := es.length) rfl rfl rfl Rz IF Q7 PL rfl (by omega) (by omega) (EM _)) fun g23 => ?_
 refine Za ?_
 refine Zx <| Zs ?_
 refine Za ?_
 refine Zx <| DC.seq <| Zs ?_
 refine Zf Br ?_
 refine Zl B9 ?_
 refine Zn Ru ?_
 refine Zm ?_
 refine Zx <| DC.block ?_
 refine DC.own (fun w hw => AU (t := 44) (m := 1) hw) ?_
 refine DC.loop (ι := ChI) (fun j => j.i ≤ es.length ∧ ChR es j.i j.cs ∧ ∀ x, x < es.length → (j.f x = true ↔ ∃ e, e ∈ selU es j.i ∧ ∃ y, y ∈ chainOf es e ∧ y / 2 = x))
  (fun j => [(4, .pointer (some ⟨M.gp, 0, none⟩)), (6, .slice (some ⟨g23, 0, none⟩) es.length es.length), (7, j.v), (25, .slice A es.length cap), (26, .int .i64 es.length), (27, .int .i64 j.i)])
  (fun j => slc j.v 44 1 (rowsV j.cs) :: blk g23 4 (bls es.length j.f).toArray :: blk M.gp 234 #[sl M.g0 M.fr, sl M.g1 M.st, sl M.g2 M.ou, sl M.g3 M.pl] :: blk M.g0 3 (ints M.fr).toArray :: blk M.g1 3 (ints M.st).toArray :: blk M.g2 3 (ints M.ou).toArray :: blk M.g3 3 (ints M.pl).toArray :: rowsC 3 j.cs) (fun j => es.length - j.i) ⟨0, fun _ => false, [], .slice none 0 0⟩
  ⟨Nat.zero_le _, ⟨rfl, fun j e p h _ => by simp [selU] at h⟩, fun x _ => ⟨fun h => by simp at h, fun ⟨e, h, _⟩ => by simp [selU] at h⟩⟩ ⟨rfl, rfl, rfl, rfl, rfl, rfl, trivial⟩ (.cons 0 rfl (.cons 0 rfl (.cons 0 rfl (.cons 0 rfl (.cons 0 rfl (.cons 0 rfl (.cons 0 rfl .nil))))))) ?_
 rintro ⟨i, f, cs, v7⟩ ⟨hi, hch, hf⟩
 dsimp only at hi hch hf ⊢
 refine Zs ?_
 refine Zc ?_
 refine Zx <| DC.seq ?_
 refine Zd (fun c7 => ?_) fun c7 => ?_
 ·have hlt : i < es.length := by simpa using c7
  have hcsl : cs.length ≤ i := by rw [hch.len]; exact Gd i
  refine DC.skip <| Fin.then <| DC.seq <| DC.block <| Zs ?_
  refine Zm ?_
  refine Za ?_
  refine Zx <| DC.seq <| Zs ?_
  iterate 2 refine Zm ?_
  refine Zi Rz IF ?_
  refine Zu (Ak rfl rfl MO (A8 (FY f hlt))) ?_
  refine Zx ?_
  refine Zd (fun c9 => ?_) fun c9 => ?_
  ·refine DC.exit <| Ad <| Ag <| Fin.then <| DC.region ?_
   refine Zp ?_
   refine Zm ?_
   refine Seq.nil ?_
   have hsel : selU es (i + 1) = selU es i := by
    show (if _ then _ else _) = _
    rw [if_pos ((hf i hlt).1 c9)]
   refine Fin.again ⟨i + 1, f, cs, v7⟩ (by dsimp only; omega) ⟨by dsimp only; omega, ⟨by dsimp only; rw [hsel]; exact hch.len, by dsimp only; rw [hsel]; exact hch.at'⟩, by dsimp only; rw [hsel]; exact hf⟩ ⟨rfl, rfl, rfl, rfl, rfl, rfl, trivial⟩ (Pick.all _)
  refine DC.skip <| Fin.then <| Zs ?_
  iterate 2 refine Zm ?_
  refine Seq.rel rfl rfl (Am QG rfl rfl rfl (fun w' hw => IG (Iz hw (.cons 2 rfl (.cons 2 rfl (.cons 2 rfl (.cons 2 rfl (.cons 2 rfl .nil))))) hP) hlt)) ?_
  rintro v9 _ rfl
  refine Za ?_
  refine Zx <| DC.seq <| DC.seq ?_
  have hcl := MD hV hlt
  have hsel : selU es (i + 1) = selU es i ++ [i] := by
   show (if _ then _ else _) = _
   have c9' : f i = false := c9
   rw [if_neg (fun h => by rw [(hf i hlt).2 h] at c9'; cases c9')]
  refine DC.slcs (i := 0) (xs := chainOf es i) rfl (by omega) ?_
  rintro A9 c9' rfl hA9
  obtain ⟨ad9, rfl⟩ := hA9 (EX i)
  refine DC.region ?_
  refine Zm ?_
  refine Zn Rt ?_
  refine Zm ?_
  refine Zx <| DC.block ?_
  refine DC.loop (ι := ChJ) (fun j => j.j ≤ (chainOf es i).length ∧ ∀ x, x < es.length → (j.g x = true ↔ f x = true ∨ ∃ (q : Nat) (y : Int), q < j.j ∧ (chainOf es i)[q]? = some y ∧ y / 2 = x))
   (fun j => [(4, .pointer (some ⟨M.gp, 0, none⟩)), (6, .slice (some ⟨g23, 0, none⟩) es.length es.length), (7, v7), (9, .slice (some ad9) (chainOf es i).length c9'), (25, .slice A es.length cap), (26, .int .i64 es.length), (27, .int .i64 i), (37, .slice (some ad9) (chainOf es i).length c9'), (38, .int .i64 (chainOf es i).length), (39, .int .i64 j.j)])
   (fun j => slc (.slice (some ad9) (chainOf es i).length c9') 3 1 (ints (chainOf es i)) :: slc v7 44 1 (rowsV cs) :: blk g23 4 (bls es.length j.g).toArray :: blk M.gp 234 #[sl M.g0 M.fr, sl M.g1 M.st, sl M.g2 M.ou, sl M.g3 M.pl] :: blk M.g0 3 (ints M.fr).toArray :: blk M.g1 3 (ints M.st).toArray :: blk M.g2 3 (ints M.ou).toArray :: blk M.g3 3 (ints M.pl).toArray :: rowsC 3 cs) (fun j => (chainOf es i).length - j.j) ⟨0, f⟩
   ⟨Nat.zero_le _, fun x _ => ⟨.inl, fun h => h.elim id fun ⟨_, _, h, _⟩ => absurd h (Rs _)⟩⟩ ⟨rfl, rfl, rfl, rfl, rfl, rfl, rfl, rfl, rfl, rfl, trivial⟩ (Pick.all _) ?_
  rintro ⟨j, g⟩ ⟨hj, hgx⟩
  dsimp only at hj hgx ⊢
  refine Zs ?_
  refine Zc ?_
  refine Zx <| DC.seq ?_
  refine Zd (fun c12 => ?_) fun c12 => ?_
  ·have hjl : j < (chainOf es i).length := by simpa using c12
   obtain ⟨y, hy⟩ : ∃ y, (chainOf es i)[j]? = some y := ⟨_, Q8 hjl⟩
   obtain ⟨hy0, hy1⟩ := HH hV hlt y (Rc hy)
   refine DC.skip <| Fin.then <| DC.seq <| DC.block <| Zs ?_
   refine Zo (Aw (ad' := ad9.add j) rfl rfl rfl Rt AN (by omega) (by omega) rfl) ?_
   refine Zu (Ak rfl rfl AJ (BJ (i := 0) rfl hy (by omega))) ?_
   refine Za ?_
   refine Zx <| DC.region ?_
   iterate 2 refine Zm ?_
   refine Zo (Nb rfl rfl rfl (by omega) (by omega)) ?_
   refine Zi Rz IF ?_
   refine Zy (AB (cs' := (bls es.length (updB g (y / 2).toNat true)).toArray) rfl rfl rfl IF rfl (by simp; omega) (FX g true)) ?_
   refine Seq.nil <| Fin.inBlock <| Fin.then <| DC.region ?_
   refine Zp ?_
   refine Zm ?_
   refine Seq.nil ?_
   refine Fin.again ⟨j + 1, updB g (y / 2).toNat true⟩ (by dsimp only; omega) ⟨by dsimp only; omega, fun x hx => ?_⟩ ⟨rfl, rfl, rfl, rfl, rfl, rfl, rfl, rfl, rfl, rfl, trivial⟩ (Pick.all _)
   dsimp only
   unfold updB
   split
   ·rename_i e; subst e
    simp only [true_iff]
    exact .inr ⟨j, y, by omega, hy, by omega⟩
   rename_i e
   rw [hgx x hx]
   constructor
   ·rintro (h1 | ⟨q, z, h1, h2, h3⟩)
    ·exact .inl h1
    exact .inr ⟨q, z, by omega, h2, h3⟩
   rintro (h1 | ⟨q, z, h1, h2, h3⟩)
   ·exact .inl h1
   rcases Re.1 h1 with h1 | rfl
   ·exact .inr ⟨q, z, h1, h2, h3⟩
   rw [hy] at h2; cases h2
   exact absurd (by omega) e
  refine DC.exit <| Ad <| Ad <| Ag <| Fin.then <| DC.region ?_
  iterate 3 refine Zm ?_
  refine Seq.rel rfl rfl (Am QF rfl rfl rfl (fun w' hw => GX (Iz hw (.cons 3 rfl (.cons 3 rfl (.cons 3 rfl (.cons 3 rfl (.cons 3 rfl .nil))))) hP) (EA hw) (EX i) (HH hV hlt) (KO hV hlt) (by omega))) ?_
  rintro v51 _ ⟨c, rfl, hclen, hwr⟩
  simp only [zs]
  refine Seq.slcs (i := 0) (xs := c) rfl (by omega) ?_
  rintro A51 c51 rfl _
  refine Zw (AM (cs := #[_]) rfl rfl Rw Cn DJ rfl (by decide) (by decide) rfl rfl) fun g52 => ?_
  refine Seq.gen rfl rfl (AR rfl rfl rfl Rw Cn KT DJ rfl (by decide) (by decide) (news := [.slice A51 c.length c51]) (k := 1) (fun w hw => hw.perm (AE (i := 3) rfl).symm) (.inl ⟨_, _, rfl, Ai rfl⟩) rfl (fun u hu => by rw [List.mem_singleton.1 hu]; rfl) (by simp; omega)) ?_
  rintro v53 _ rfl
  refine Za ?_
  refine Seq.nil <| Fin.inBlock <| Fin.then <| DC.region ?_
  refine Zp ?_
  refine Zm ?_
  refine Seq.nil ?_
  have hjl : j = (chainOf es i).length := by simp at c12; omega
  subst hjl
  refine Fin.own (M := slc v53 44 1 (rowsV (cs ++ [(.slice A51 c.length c51, c)])) :: blk g23 4 (bls es.length g).toArray :: blk M.gp 234 #[sl M.g0 M.fr, sl M.g1 M.st, sl M.g2 M.ou, sl M.g3 M.pl] :: blk M.g0 3 (ints M.fr).toArray :: blk M.g1 3 (ints M.st).toArray :: blk M.g2 3 (ints M.ou).toArray :: blk M.g3 3 (ints M.pl).toArray :: rowsC 3 (cs ++ [(.slice A51 c.length c51, c)])) (fun w hw => ?_) ?_
  ·have e1 : rowsV (cs ++ [(.slice A51 c.length c51, c)]) = rowsV cs ++ [.slice A51 c.length c51] := by simp [rowsV]
   have e2 : rowsC 3 (cs ++ [(.slice A51 c.length c51, c)]) = rowsC 3 cs ++ [slc (.slice A51 c.length c51) 3 1 (ints c)] := by simp [rowsC]
   rw [e1, e2]
   have h1 := hw.sub (L' := slc v53 44 1 (rowsV cs ++ [.slice A51 c.length c51]) :: slc (.slice A51 c.length c51) 3 1 (ints c) :: blk g23 4 (bls es.length g).toArray :: blk M.gp 234 #[sl M.g0 M.fr, sl M.g1 M.st, sl M.g2 M.ou, sl M.g3 M.pl] :: blk M.g0 3 (ints M.fr).toArray :: blk M.g1 3 (ints M.st).toArray :: blk M.g2 3 (ints M.ou).toArray :: blk M.g3 3 (ints M.pl).toArray :: rowsC 3 cs) ((((List.Sublist.refl _).cons _).cons_cons _ |>.cons _).cons_cons _)
   refine h1.perm (List.Perm.cons _ ?_)
   have := Rr (l₁ := blk g23 4 (bls es.length g).toArray :: blk M.gp 234 #[sl M.g0 M.fr, sl M.g1 M.st, sl M.g2 M.ou, sl M.g3 M.pl] :: blk M.g0 3 (ints M.fr).toArray :: blk M.g1 3 (ints M.st).toArray :: blk M.g2 3 (ints M.ou).toArray :: blk M.g3 3 (ints M.pl).toArray :: rowsC 3 cs) (l₂ := [slc (.slice A51 c.length c51) 3 1 (ints c)])
   simpa using this
  have hca : (chainOf es i)[0]? = some (((chainOf es i)[0]?).getD (-1)) := by
   obtain ⟨x, hx⟩ : ∃ x, (chainOf es i)[0]? = some x := ⟨_, Q8 (List.length_pos_iff.2 (EX i))⟩
   rw [hx]; rfl
  have hcz : (chainOf es i)[(chainOf es i).length - 1]? = some (wI es (2 * i) (wayT es (2 * i))) := by rw [← List.getLast?_eq_getElem?, KQ]
  have hcp := List.length_pos_iff.2 (EX (es := es) i)
  refine Fin.again ⟨i + 1, g, cs ++ [(.slice A51 c.length c51, c)], v53⟩ (by dsimp only; omega) ⟨by dsimp only; omega, hch.next hsel ⟨hwr _ _ hca hcz, by dsimp only; omega, by dsimp only; omega⟩, fun x hx => ?_⟩ ⟨rfl, rfl, rfl, rfl, rfl, rfl, trivial⟩ (Pick.all _)
  dsimp only
  rw [hgx x hx, hf x hx, hsel]
  constructor
  ·rintro (⟨e, he, h⟩ | ⟨q, y, _, hq, hy⟩)
   ·exact ⟨e, by simp [he], h⟩
   exact ⟨i, by simp, y, Rc hq, hy⟩
  rintro ⟨e, he, y, hy, hyx⟩
  rcases List.mem_append.1 he with he | he
  ·exact .inl ⟨e, he, y, hy, hyx⟩
  simp at he; subst he
  obtain ⟨q, hq⟩ := Rf.1 hy
  exact .inr ⟨q, y, (Q9.1 hq).1, hq, hyx⟩
 refine DC.exit <| Ad <| Ad <| Ag <| Fin.then <| Zs ?_
 refine Zm ?_
 iterate 2 refine Za ?_
 refine Zx <| DC.ret ?_
 have hie : i = es.length := by simp at c7; omega
 subst hie
 refine Fin.own (M := slc v7 44 1 (rowsV cs) :: rowsC 3 cs) (fun w hw => hw.sub (((((((List.Sublist.refl _).cons _).cons _).cons _).cons _).cons _).cons _ |>.cons_cons _)) ?_
 refine Fin.weak (E' := [(2, _), (3, _)]) ⟨rfl, rfl, trivial⟩ (Pick.all _) ?_
 refine AI (.inl rfl) rfl rfl rfl ?_
 exact ⟨v7, cs, rfl, hch, rfl⟩
end Go.Fl

namespace Go.Fl
open Go Go.Proofs
open Classical
theorem D4 (es : List Pr) (i : Nat) : brV es (i + 1) = brV es i ++ if degV es (i : Int) ≠ 0 ∧ degV es (i : Int) ≠ 2 then [(i : Int)] else [] := by
 unfold brV
 rw [List.range_succ, List.filter_append, List.map_append]
 congr 1
 by_cases h : degV es (i : Int) ≠ 0 ∧ degV es (i : Int) ≠ 2 <;> simp [h]
theorem LQ (es : List Pr) (i : Nat) : (brV es i).length ≤ i := by
 unfold brV
 rw [List.length_map]
 have := List.length_filter_le (fun v : Nat => decide (degV es (v : Int) ≠ 0 ∧ degV es (v : Int) ≠ 2)) (List.range i)
 simpa using this
theorem JX {es : List Pr} {i n : Nat} (h : i ≤ n) {x : Int} (hx : x ∈ brV es i) : x ∈ brV es n := by
 unfold brV at hx ⊢
 obtain ⟨v, hv, rfl⟩ := List.mem_map.1 hx
 obtain ⟨h1, h2⟩ := List.mem_filter.1 hv
 exact List.mem_map.2 ⟨v, List.mem_filter.2 ⟨Rn.2 (by have := Rn.1 h1; omega), h2⟩, rfl⟩
structure DgI where
 i : Nat
 d : Nat
 v : Value
theorem Gz {n : Nat} {es : List Pr} {M : AdjM} {p : Option Addr} {w : World} (hA : AV w n es M p) :
  Calls Tryz.prog 126 #[.pointer p] w (Ret w [] fun r L =>
   (∃ A c d, r = .tuple #[.slice A (brV es n).length c, .int .i64 (d : Nat)] ∧ L = [slc (.slice A (brV es n).length c) 3 1 (ints (brV es n))] ∧ ∀ u, u ∈ brV es n → degV es u = d) ∨
   (r = .tuple #[.slice none 0 0, .int .i64 0] ∧ L = [] ∧ ¬ ∃ d, ∀ u, u ∈ brV es n → degV es u = d)) := by
 have hV := hA.vld
 have hn := hV.hi
 refine Ao (args := [_]) (L := []) Tryz.func126 rfl Tryz.ntmps126 rfl (Own.start _ _) ?_
 refine Zs ?_
 iterate 2 refine Za ?_
 refine Zx <| Zs ?_
 refine Za ?_
 refine Zx <| Zs ?_
 refine Za ?_
 refine Zx <| DC.seq <| Zs ?_
 refine Zm ?_
 refine Seq.rel0 rfl rfl (Am O2 rfl rfl rfl (fun w' hw => LT (hA.keep hw))) ?_
 rintro _ rfl
 refine Zm ?_
 refine Zx <| DC.block ?_
 refine DC.own (fun w hw => AU (t := 3) (m := 1) hw) ?_
 refine DC.loop (ι := DgI) (fun j => j.i ≤ n ∧ (∀ u, u ∈ brV es j.i → degV es u = j.d) ∧ (j.d = 0 → brV es j.i = []) ∧ (j.d ≠ 0 → brV es j.i ≠ []))
  (fun j => [(0, .pointer p), (4, j.v), (5, .int .i64 j.d), (9, .int .i64 n), (10, .int .i64 j.i)])
  (fun j => [slc j.v 3 1 (ints (brV es j.i))]) (fun j => n - j.i) ⟨0, 0, .slice none 0 0⟩ ⟨Nat.zero_le _, by simp [brV], fun _ => by simp [brV], fun h => absurd rfl h⟩ ⟨rfl, rfl, rfl, rfl, rfl, trivial⟩ (.cons 0 rfl .nil) ?_
 rintro ⟨i, d, v4⟩ ⟨hi, hd, hd0, hd1⟩
 dsimp only at hi hd hd0 hd1 ⊢
 refine Zs ?_
 refine Zc ?_
 refine Zx <| DC.seq ?_
 refine Zd (fun c4 => ?_) fun c4 => ?_
 ·have hlt : i < n := by simpa using c4
  have hbl := LQ es i
  refine DC.skip <| Fin.then <| DC.seq <| DC.block <| Zs ?_
  refine Zm ?_
  refine Za ?_
  refine Zx <| Zs ?_
  iterate 2 refine Zm ?_
  refine Seq.rel0 rfl rfl (Am JE rfl rfl rfl (fun w' hw => Cj (hA.keep hw) _)) ?_
  rintro _ rfl
  refine Za ?_
  refine Zx <| DC.block <| Zs ?_
  refine Zm ?_
  refine Zo (AW rfl rfl rfl) ?_
  refine Zm ?_
  refine Seq.split 19 rfl (fun k8_2 => ?_) (fun k8_2 => ?_)
  ·refine Zk ?_
   refine Zk ?_
   refine Zt ?_
   refine Za ?_
   refine Zx ?_
   refine AG rfl ?_
   refine DC.skip <| Fin.inBlock <| Fin.inBlock <| Fin.then <| DC.region ?_
   refine Zp ?_
   refine Zm ?_
   refine Seq.nil ?_
   have hb : brV es (i + 1) = brV es i := by
    have : degV es (i : Int) = 0 := by unfold degV; simp at k8_2; simp [k8_2]
    rw [D4, if_neg (by omega), List.append_nil]
   refine Fin.again ⟨i + 1, d, v4⟩ (by dsimp only; omega) ⟨by dsimp only; omega, by dsimp only; rw [hb]; exact hd, by dsimp only; rw [hb]; exact hd0, by dsimp only; rw [hb]; exact hd1⟩ ⟨rfl, rfl, rfl, rfl, rfl, trivial⟩ (.cons' 0 rfl (by dsimp only; rw [hb]) .nil)
  refine Zm ?_
  refine Zo (AW rfl rfl rfl) ?_
  refine Zg ?_
  refine Za ?_
  refine Zx ?_
  refine Zd (fun c8 => ?_) fun c8 => ?_
  ·refine DC.skip <| Fin.inBlock <| Fin.inBlock <| Fin.then <| DC.region ?_
   refine Zp ?_
   refine Zm ?_
   refine Seq.nil ?_
   have hb : brV es (i + 1) = brV es i := by
    have : degV es (i : Int) = 2 := by unfold degV; simp at c8; omega
    rw [D4, if_neg (by omega), List.append_nil]
   refine Fin.again ⟨i + 1, d, v4⟩ (by dsimp only; omega) ⟨by dsimp only; omega, by dsimp only; rw [hb]; exact hd, by dsimp only; rw [hb]; exact hd0, by dsimp only; rw [hb]; exact hd1⟩ ⟨rfl, rfl, rfl, rfl, rfl, trivial⟩ (.cons' 0 rfl (by dsimp only; rw [hb]) .nil)
  refine Zs ?_
  refine Zm ?_
  refine Zo (AW rfl rfl rfl) ?_
  refine Zm ?_
  refine Seq.split 26 rfl (fun k9_2 => ?_) (fun k9_2 => ?_)
  ·refine Zk ?_
   iterate 2 refine Zk ?_
   refine Zt ?_
   refine Za ?_
   refine Zx ?_
   refine AG rfl ?_
   refine DC.region ?_
   iterate 2 refine Zm ?_
   refine Zw (AM (cs := #[_]) rfl rfl Rt AN Cg rfl (by decide) (by decide) rfl rfl) fun g33 => ?_
   refine Seq.gen rfl rfl (AR rfl rfl rfl Rt AN E5 Cg rfl (by decide) (by decide) (fun w hw => hw.pick (.cons 1 rfl .nil)) (.inl ⟨_, _, rfl, Ai rfl⟩) rfl (BE [_] []) (by simp; omega)) ?_
   rintro v34 _ rfl
   have hne : degV es (i : Int) ≠ 0 ∧ degV es (i : Int) ≠ 2 := by
    have h1 : ¬ (((outs es (i : Int)).length : Int) = 0) := by simpa using k8_2
    have h2 : ¬ (((outs es (i : Int)).length : Int) = 2) := by simpa using c8
    unfold degV
    omega
   refine Zm ?_
   iterate 2 refine Za ?_
   refine Seq.nil <| Fin.inBlock <| Fin.inBlock <| Fin.then <| DC.region ?_
   refine Zp ?_
   refine Zm ?_
   refine Seq.nil ?_
   have hb : brV es (i + 1) = brV es i ++ [(i : Int)] := by rw [D4, if_pos hne]
   refine Fin.again ⟨i + 1, degV es (i : Int), v34⟩ (by dsimp only; omega) ⟨by dsimp only; omega, ?_, fun h => absurd h hne.1, fun _ => by dsimp only; rw [hb]; simp⟩ ⟨rfl, rfl, rfl, rfl, rfl, trivial⟩ (.cons' 0 rfl (by dsimp only; rw [hb, Bj]) .nil)
   dsimp only
   have hd00 : d = 0 := by simp at k9_2; omega
   rw [hb, hd0 hd00]
   intro u hu
   simp at hu; subst hu; rfl
  iterate 2 refine Zm ?_
  refine Zo (AW rfl rfl rfl) ?_
  refine Zg ?_
  refine Za ?_
  refine Zx ?_
  refine Zd (fun c9 => ?_) fun c9 => ?_
  ·refine DC.region ?_
   iterate 2 refine Zm ?_
   refine Zw (AM (cs := #[_]) rfl rfl Rt AN Cg rfl (by decide) (by decide) rfl rfl) fun g33 => ?_
   refine Seq.gen rfl rfl (AR rfl rfl rfl Rt AN E5 Cg rfl (by decide) (by decide) (fun w hw => hw.pick (.cons 1 rfl .nil)) (.inl ⟨_, _, rfl, Ai rfl⟩) rfl (BE [_] []) (by simp; omega)) ?_
   rintro v34 _ rfl
   have hne : degV es (i : Int) ≠ 0 ∧ degV es (i : Int) ≠ 2 := by
    have h1 : ¬ (((outs es (i : Int)).length : Int) = 0) := by simpa using k8_2
    have h2 : ¬ (((outs es (i : Int)).length : Int) = 2) := by simpa using c8
    unfold degV
    omega
   refine Zm ?_
   iterate 2 refine Za ?_
   refine Seq.nil <| Fin.inBlock <| Fin.inBlock <| Fin.then <| DC.region ?_
   refine Zp ?_
   refine Zm ?_
   refine Seq.nil ?_
   have hb : brV es (i + 1) = brV es i ++ [(i : Int)] := by rw [D4, if_pos hne]
   refine Fin.again ⟨i + 1, degV es (i : Int), v34⟩ (by dsimp only; omega) ⟨by dsimp only; omega, ?_, fun h => absurd h hne.1, fun _ => by dsimp only; rw [hb]; simp⟩ ⟨rfl, rfl, rfl, rfl, rfl, trivial⟩ (.cons' 0 rfl (by dsimp only; rw [hb, Bj]) .nil)
   dsimp only
   have hdd : d = degV es (i : Int) := by unfold degV; simp at c9; omega
   rw [hb]
   intro u hu
   rcases List.mem_append.1 hu with hu | hu
   ·rw [hd u hu, hdd]
   simp at hu; subst hu; rfl
  refine Zs ?_
  iterate 2 refine Za ?_
  refine Zx <| DC.ret <| Ae <| Ae <| Aa <| Aa <| Ae <| Aa ?_
  refine Fin.weak (E' := [(2, _), (3, _)]) ⟨rfl, rfl, trivial⟩ .nil ?_
  refine AI (.inl rfl) rfl rfl rfl ?_
  refine .inr ⟨rfl, rfl, ?_⟩
  rintro ⟨d', hd'⟩
  have h0 : d ≠ 0 := by simp at k9_2; omega
  obtain ⟨u, hu⟩ := List.exists_mem_of_ne_nil _ (hd1 h0)
  have hb : brV es (i + 1) = brV es i ++ [(i : Int)] := by
   rw [D4, if_pos]
   have h1 : ¬ (((outs es (i : Int)).length : Int) = 0) := by simpa using k8_2
   have h2 : ¬ (((outs es (i : Int)).length : Int) = 2) := by simpa using c8
   unfold degV
   omega
  have e1 := hd' u (JX hi hu)
  have e2 := hd' i (JX (i := i + 1) (by omega) (by rw [hb]; simp))
  have e3 := hd u hu
  unfold degV at e1 e2 e3
  simp at c9
  omega
 refine DC.exit <| Ad <| Ad <| Ag <| Fin.then <| Zs ?_
 iterate 2 refine Zm ?_
 iterate 2 refine Za ?_
 refine Zx <| DC.ret ?_
 have hie : i = n := by simp at c4; omega
 subst hie
 have hbl := LQ es i
 refine Fin.slcs (i := 0) (xs := brV es i) rfl (by omega) ?_
 rintro A c rfl _
 refine Fin.weak (E' := [(2, _), (3, _)]) (L' := [slc (.slice A (brV es i).length c) 3 1 (ints (brV es i))]) ⟨rfl, rfl, trivial⟩ (.cons 0 rfl .nil) ?_
 refine AI (.inl rfl) rfl rfl rfl ?_
 exact .inl ⟨A, c, d, rfl, rfl, hd⟩
end Go.Fl

namespace Go.Fl
open Go Go.Proofs
open Classical
theorem BD (c : Chunk) : ∀ R : List Chunk, Pick (c :: R) R
 | [] => .nil
 | d :: R => .cons 1 rfl (BD c R)
theorem CI (a : Chunk) {M L' : List Chunk} (h : Pick M L') : Pick (a :: M) L' := by
 induction h with
 | nil => exact .nil
 | cons i h r ih => exact .cons (i + 1) h ih
theorem M1 {w0 w : World} {K : List Nat} {F : List Chunk} {t : Nat} {cs : RL} {p : Value × List Int} (hw : Own w0 K w (F ++ rowsC t cs)) (hp : p ∈ cs) : SlB w p.1 p.2 := by
 obtain ⟨i, hi⟩ := Rf.1 hp
 exact EA (hw.perm (FH hi F).symm)
/-- The values of the map are our rows. -/
def MapR (m : List (Pr × Value)) (cs : RL) : Prop := ∀ q x, lkM m q = some x → ∃ p, p ∈ cs ∧ p.1 = x
theorem Dq {gm : Nat} {m : List (Pr × Value)} {cs : RL} {X : List Chunk} {u v : Int} {w : World} (hO : Own w (idsOf (mpc encP gm m :: (X ++ rowsC 3 cs))) w (mpc encP gm m :: (X ++ rowsC 3 cs))) (hm : MapR m cs)
  (hs : ∀ p, p ∈ cs → p.2.length ≤ 1000000000) :
  Calls Tryz.prog 162 #[.map (some gm), .int .i64 u, .int .i64 v] w (Ret w (idsOf (mpc encP gm m :: (X ++ rowsC 3 cs))) fun r M => M = mpc encP gm m :: (X ++ rowsC 3 cs) ∧
   ∃ A l c, r = .tuple #[.slice A l c, .bool (lkM m (srt u v)).isSome]) := by
 obtain ⟨xs, hxl, hxs⟩ : ∃ xs : List Int, xs.length ≤ 1000000000 ∧ ∀ (w0 w' : World) K, Own w0 K w' (mpc encP gm m :: (X ++ rowsC 3 cs)) → SlB w' ((lkM m (srt u v)).getD (.slice none 0 0)) xs := by
  cases hq : lkM m (srt u v) with
  | none => exact ⟨[], by simp, fun _ _ _ _ => .inl ⟨none, 0, rfl, rfl⟩⟩
  | some x =>
   obtain ⟨p, hp, rfl⟩ := hm _ _ hq
   exact ⟨p.2, hs p hp, fun w0 w' K hw => M1 (F := mpc encP gm m :: X) hw hp⟩
 refine Ao (args := [_, _, _]) (L := mpc encP gm m :: (X ++ rowsC 3 cs)) Tryz.func162 rfl Tryz.ntmps162 rfl hO ?_
 refine Zs ?_
 iterate 2 refine Za ?_
 refine Zx <| Zs ?_
 iterate 3 refine Zm ?_
 refine Zo (Lk rfl rfl rfl) ?_
 iterate 2 refine Zm ?_
 refine Zo (Ll rfl rfl rfl) ?_
 refine Zo (H3 (cs := #[.int .i64 (min u v), .int .i64 (max u v)]) rfl rfl Tryz.underlying35 AN J7 rfl rfl rfl) ?_
 refine Zu (Cz (k := srt u v) (ok := true) 0 rfl Fi rfl rfl rfl Tryz.underlying205 DJ rfl) ?_
 refine Zm ?_
 iterate 2 refine Ze ?_
 iterate 2 refine Za ?_
 refine Zx <| Zs ?_
 refine Zm ?_
 refine Seq.rel rfl rfl (Am PB rfl rfl rfl (fun w' hw => D3 (hxs _ w' _ hw) (by omega))) ?_
 rintro v23 _ rfl
 simp only [zs]
 refine Za ?_
 refine Zx <| DC.seq <| Zs ?_
 iterate 2 refine Zm ?_
 refine Zo (Bx rfl rfl rfl) ?_
 refine Zx ?_
 refine Zd (fun c3 => ?_) fun c3 => ?_
 ·refine DC.region ?_
  refine Zm ?_
  refine Seq.gen rfl rfl (AQ Qm rfl rfl rfl (Lc := [slc v23 3 1 (ints xs)]) (F := mpc encP gm m :: (X ++ rowsC 3 cs)) (.refl _) (fun k hk => hk) (fun w' hw => Hj (hw.sub (L' := [slc v23 3 1 (ints xs)]) ((Rh _).cons_cons _)).self)) ?_
  rintro v28 _ ⟨_, rfl, rfl⟩
  refine Zx <| Zs ?_
  iterate 2 refine Zm ?_
  iterate 2 refine Za ?_
  refine Zx <| DC.ret ?_
  refine Fin.shape (i := 0) (vs := ints xs.reverse) (t := 3) (m := 1) rfl ?_
  rintro ⟨A, l, c, rfl⟩
  refine Fin.own (fun w hw => hw.sub (Rg ..)) ?_
  refine Fin.weak (E' := [(6, _), (7, _)]) ⟨rfl, rfl, trivial⟩ (Pick.all _) ?_
  refine AI (.inl rfl) rfl rfl rfl ?_
  exact ⟨rfl, A, l, c, rfl⟩
 refine DC.skip <| Fin.then <| Zs ?_
 iterate 2 refine Zm ?_
 iterate 2 refine Za ?_
 refine Zx <| DC.ret ?_
 refine Fin.shape (i := 0) (vs := ints xs) (t := 3) (m := 1) rfl ?_
 rintro ⟨A, l, c, rfl⟩
 refine Fin.own (fun w hw => hw.sub (Rg ..)) ?_
 refine Fin.weak (E' := [(6, _), (7, _)]) ⟨rfl, rfl, trivial⟩ (Pick.all _) ?_
 refine AI (.inl rfl) rfl rfl rfl ?_
 exact ⟨rfl, A, l, c, rfl⟩
theorem CZ {E : List Pr} {B : List Int} {i : Nat} {x : Int} (hx : B[i]? = some x) (f : Int → Bool) : (B.take (i + 1)).filter f = (B.take i).filter f ++ if f x then [x] else [] := by
 rw [List.take_add_one, hx, List.filter_append]
 congr 1
 cases h : f x <;> simp [h]
structure SdI where
 i : Nat
 v5 : Value
 v6 : Value
theorem IZ {gm : Nat} {m : List (Pr × Value)} {cs : RL} {vb : Value} {B : List Int} {E : List Pr} {w : World} (hO : Own w (idsOf (mpc encP gm m :: slc vb 3 1 (ints B) :: rowsC 3 cs)) w (mpc encP gm m :: slc vb 3 1 (ints B) :: rowsC 3 cs)) (hm : MapR m cs)
  (hs : ∀ p, p ∈ cs → p.2.length ≤ 1000000000) (hB : B.length ≤ 1000000) (hE : ∀ q, (lkM m q).isSome = decide (q ∈ E)) :
  Calls Tryz.prog 129 #[vb, .map (some gm)] w (Ret w (idsOf (mpc encP gm m :: slc vb 3 1 (ints B) :: rowsC 3 cs)) fun r M => M = mpc encP gm m :: slc r 3 1 (ints (sidesOf E B)) :: rowsC 3 cs) := by
 refine Ao (args := [_, _]) (L := mpc encP gm m :: slc vb 3 1 (ints B) :: rowsC 3 cs) Tryz.func129 rfl Tryz.ntmps129 rfl hO ?_
 refine DC.slcs (i := 1) (xs := B) rfl (by omega) ?_
 rintro A c rfl hA
 refine Zs ?_
 refine Za ?_
 refine Zx <| Zs ?_
 iterate 2 refine Za ?_
 refine Zx <| DC.seq <| Zs ?_
 refine Zm ?_
 refine Zn Rt ?_
 refine Zm ?_
 refine Zx <| DC.block ?_
 refine DC.own (fun w hw => AU (t := 3) (m := 1) (AU (t := 3) (m := 1) hw)) ?_
 refine DC.loop (ι := SdI) (fun j => j.i ≤ B.length)
  (fun j => [(0, .slice A B.length c), (1, .map (some gm)), (5, j.v5), (6, j.v6), (11, .slice A B.length c), (12, .int .i64 B.length), (13, .int .i64 j.i)])
  (fun j => mpc encP gm m :: slc j.v5 3 1 (ints ((B.take j.i).filter fun v => decide (srt (B.headD 0) v ∉ E))) :: slc j.v6 3 1 (ints ((B.take j.i).filter fun v => decide (srt (B.headD 0) v ∈ E))) :: slc (.slice A B.length c) 3 1 (ints B) :: rowsC 3 cs) (fun j => B.length - j.i)
  ⟨0, .slice none 0 0, .slice none 0 0⟩ (Nat.zero_le _) ⟨rfl, rfl, rfl, rfl, rfl, rfl, rfl, trivial⟩ (.cons 2 rfl (.cons 0 rfl (.cons 0 rfl (Pick.all _)))) ?_
 rintro ⟨i, v5, v6⟩ hi
 dsimp only at hi ⊢
 refine Zs ?_
 refine Zc ?_
 refine Zx <| DC.seq ?_
 refine Zd (fun c3 => ?_) fun c3 => ?_
 ·have hlt : i < B.length := by simpa using c3
  obtain ⟨ad, rfl⟩ := hA (fun e => by rw [e] at hlt; simp at hlt)
  obtain ⟨x, hx⟩ : ∃ x, B[i]? = some x := ⟨_, Q8 hlt⟩
  obtain ⟨x0, hx0⟩ : ∃ x, B[0]? = some x := ⟨_, Q8 (by omega)⟩
  have hhd : B.headD 0 = x0 := by rw [List.headD_eq_head?_getD, List.head?_eq_getElem?, hx0]; rfl
  have hl5 := List.length_filter_le (fun v => decide (srt (B.headD 0) v ∉ E)) (B.take i)
  have hl6 := List.length_filter_le (fun v => decide (srt (B.headD 0) v ∈ E)) (B.take i)
  rw [List.length_take] at hl5 hl6
  refine DC.skip <| Fin.then <| DC.seq <| DC.block <| Zs ?_
  refine Zo (Aw (ad' := ad.add i) rfl rfl rfl Rt AN (by omega) (by omega) rfl) ?_
  refine Zu (Ak rfl rfl AJ (BJ (i := 3) rfl hx (by omega))) ?_
  refine Za ?_
  refine Zx <| Zs ?_
  iterate 2 refine Zm ?_
  refine Zo (Aw (ad' := ad.add 0) rfl rfl rfl Rt AN (by omega) (by omega) rfl) ?_
  refine Zu (Ak rfl rfl AJ (BJ (i := 3) rfl hx0 (by omega))) ?_
  refine Zm ?_
  refine Seq.gen rfl rfl (AQ NP rfl rfl rfl (Lc := mpc encP gm m :: ([slc v5 3 1 (ints ((B.take i).filter fun v => decide (srt (B.headD 0) v ∉ E))), slc v6 3 1 (ints ((B.take i).filter fun v => decide (srt (B.headD 0) v ∈ E))), slc (.slice (some ad) B.length c) 3 1 (ints B)] ++ rowsC 3 cs)) (F := []) (by rw [List.append_nil]; exact .refl _) (fun k hk => hk) (fun w' hw => Dq hw.self hm hs)) ?_
  rintro _ _ ⟨_, ⟨rfl, A', l', c', rfl⟩, rfl⟩
  rw [hE, List.append_nil, ← hhd]
  simp only [zs]
  refine Zm ?_
  iterate 2 refine Ze ?_
  iterate 2 refine Za ?_
  refine Zx <| Zs ?_
  refine Zm ?_
  refine Zx ?_
  refine Zd (fun c6 => ?_) fun c6 => ?_
  ·refine DC.region ?_
   iterate 2 refine Zm ?_
   refine Zw (AM (cs := #[_]) rfl rfl Rt AN Cg rfl (by decide) (by decide) rfl rfl) fun g29 => ?_
   refine Seq.gen rfl rfl (AR rfl rfl rfl Rt AN E5 Cg rfl (by decide) (by decide) (fun w hw => hw.perm (AE (i := 3) rfl).symm) (.inl ⟨_, _, rfl, Ai rfl⟩) rfl (BE [_] []) (by simp only [ints_length]; omega)) ?_
   rintro v30 _ rfl
   refine Za ?_
   refine Seq.nil <| Fin.inBlock <| Fin.then <| DC.region ?_
   refine Zp ?_
   refine Zm ?_
   refine Seq.nil ?_
   have h6 : srt (B.headD 0) x ∈ E := by simpa using c6
   refine Fin.again ⟨i + 1, v5, v30⟩ (by dsimp only; omega) (by dsimp only; omega) ⟨rfl, rfl, rfl, rfl, rfl, rfl, rfl, trivial⟩
    (.cons 2 rfl (.cons' 2 rfl ?_ (.cons' 0 rfl ?_ (.cons 1 rfl (BD _ _)))))
   ·dsimp only; rw [CZ (E := E) hx, if_neg (by simpa using h6), List.append_nil]
   dsimp only; rw [CZ (E := E) hx, if_pos (by simpa using h6), Bj]
  refine DC.region ?_
  iterate 2 refine Zm ?_
  refine Zw (AM (cs := #[_]) rfl rfl Rt AN Cg rfl (by decide) (by decide) rfl rfl) fun g33 => ?_
  refine Seq.gen rfl rfl (AR rfl rfl rfl Rt AN E5 Cg rfl (by decide) (by decide) (fun w hw => hw.perm (AE (i := 2) rfl).symm) (.inl ⟨_, _, rfl, Ai rfl⟩) rfl (BE [_] []) (by simp only [ints_length]; omega)) ?_
  rintro v34 _ rfl
  refine Za ?_
  refine Seq.nil <| Fin.inBlock <| Fin.then <| DC.region ?_
  refine Zp ?_
  refine Zm ?_
  refine Seq.nil ?_
  have h6 : ¬ srt (B.headD 0) x ∈ E := by simpa using c6
  refine Fin.again ⟨i + 1, v34, v6⟩ (by dsimp only; omega) (by dsimp only; omega) ⟨rfl, rfl, rfl, rfl, rfl, rfl, rfl, trivial⟩
   (.cons 2 rfl (.cons' 0 rfl ?_ (.cons' 1 rfl ?_ (.cons 1 rfl (BD _ _)))))
  ·dsimp only; rw [CZ (E := E) hx, if_pos (by simpa using h6), Bj]
  dsimp only; rw [CZ (E := E) hx, if_neg (by simpa using h6), List.append_nil]
 refine DC.exit <| Ad <| Ad <| Ag <| Fin.then <| DC.seq ?_
 have hie : i = B.length := by simp at c3; omega
 subst hie
 rw [List.take_length]
 have hl5 := List.length_filter_le (fun v => decide (srt (B.headD 0) v ∉ E)) B
 have hl6 := List.length_filter_le (fun v => decide (srt (B.headD 0) v ∈ E)) B
 refine DC.slcs (i := 2) (v := v6) (xs := B.filter fun v => decide (srt (B.headD 0) v ∈ E)) rfl (by omega) ?_
 rintro A6 c6' rfl hA6
 refine DC.region ?_
 iterate 2 refine Zm ?_
 have hsrc : Src w (idsOf (mpc encP gm m :: slc (.slice A B.length c) 3 1 (ints B) :: rowsC 3 cs)) (mpc encP gm m :: slc v5 3 1 (ints (B.filter fun v => decide (srt (B.headD 0) v ∉ E))) :: slc (.slice A6 (B.filter fun v => decide (srt (B.headD 0) v ∈ E)).length c6') 3 1 (ints (B.filter fun v => decide (srt (B.headD 0) v ∈ E))) :: slc (.slice A B.length c) 3 1 (ints B) :: rowsC 3 cs)
   (.slice A6 (B.filter fun v => decide (srt (B.headD 0) v ∈ E)).length c6') (B.filter fun v => decide (srt (B.headD 0) v ∈ E)).length (ints (B.filter fun v => decide (srt (B.headD 0) v ∈ E))) := by
  by_cases hz : (B.filter fun v => decide (srt (B.headD 0) v ∈ E)) = []
  ·rw [hz]
   cases A6 with
   | none => exact .inr ⟨_, rfl, rfl, rfl⟩
   | some ad => exact .inl ⟨ad, _, rfl, fun w hw j u hj => by simp [ints] at hj⟩
  obtain ⟨ad, rfl⟩ := hA6 hz
  exact .inl ⟨ad, _, rfl, Fk (i := 2) rfl (by omega)⟩
 refine Seq.gen rfl rfl (AR rfl rfl rfl Rt AN E5 Cg rfl (by decide) (by decide) (fun w hw => hw.perm (AE (i := 1) rfl).symm) hsrc (by simp) (BE _ []) (by simp only [ints_length]; omega)) ?_
 rintro v38 _ rfl
 refine Za ?_
 refine Zx <| DC.ret ?_
 refine Fin.weak (E' := [(4, _)]) (L' := mpc encP gm m :: slc v38 3 1 (ints (sidesOf E B)) :: rowsC 3 cs) ⟨rfl, trivial⟩ (.cons 1 rfl (.cons' 0 rfl (by unfold sidesOf; rw [Bj]) (CI _ (BD _ _)))) ?_
 refine Zh ?_
 rfl
end Go.Fl

namespace Go.Fl
open Go Go.Proofs
theorem PrV.src2 {w0 w : World} {L : List Chunk} {v : Value} {es : List Pr} (h : PrV w0 v es) : Src w0 [] L v es.length (prs es) := by
 obtain ⟨A, cap, rfl, hr, _, _, _⟩ := h
 refine Kc (m := 2) hr (by simp) (by simp) (fun hA => ?_)
 subst hA
 cases es with
 | nil => rfl
 | cons e r => obtain ⟨ad, e', _⟩ := hr.pair (i := 0) (e := e) rfl; cases e'
theorem SlV.src2 {w0 w : World} {L : List Chunk} {v : Value} {xs : List Int} (h : SlV w0 v xs) : Src w0 [] L v xs.length (ints xs) := by
 obtain ⟨A, cap, rfl, hr, _, _, _⟩ := h
 refine Kc (m := 1) hr (by simp) (by simp) (fun hA => ?_)
 subst hA
 cases xs with
 | nil => rfl
 | cons e r => obtain ⟨ad, e', _⟩ := hr.int (i := 0) (x := e) rfl; cases e'
/-- Lists of ours, seen as lists that are read. -/
theorem Ly {w0 w : World} {K : List Nat} {F : List Chunk} {t t' : Nat} {v : Value} {rs : RL} (hw : Own w0 K w (slc v t' 1 (rowsV rs) :: (F ++ rowsC t rs))) (hb : rs.length ≤ 17592186044416) (hf : ∀ p, p ∈ rs → p.2.length ≤ 17592186044416) : LsV w v (rs.map Prod.snd) := by
 obtain ⟨A, len, cap, rfl, hl, hr, h1, h2⟩ := CO hw
 rw [rowsV_length, Nat.mul_one] at hl
 subst hl
 refine ⟨A, cap, by simp, fun i l hi => ?_, by simpa using h1, h2, by simpa using hb⟩
 rw [List.getElem?_map, Option.map_eq_some_iff] at hi
 obtain ⟨p, hp, rfl⟩ := hi
 have hg : (rowsV rs)[i]? = some p.1 := by simp [rowsV, hp]
 obtain ⟨ad, hA, hc⟩ := hr i p.1 hg
 refine ⟨ad, p.1, hA, hc, IX (F := slc (.slice A rs.length cap) t' 1 (rowsV rs) :: F) (by simpa using hw) hp (hf p (Rc hp))⟩
structure CcI where
 i : Nat
 v : Value
 rs : RL
theorem G2 {pl : Bool} {ls : List (List Int)} {cs : List Pr} {v u : Value} {w : World} (hv : LsV w v ls) (hu : PrV w u cs) (hn : ls.length ≤ 1000000000) (hs : ∀ l, l ∈ ls → l.length ≤ 1000000000) :
  Calls Tryz.prog 12 #[.agg #[.bool pl, v, u]] w (Ret w [] fun r L => ∃ Av lv cv Au lu cu rs, r = .agg #[.bool pl, .slice Av lv cv, .slice Au lu cu] ∧ rs.map Prod.snd = ls ∧
   L = slc (.slice Av lv cv) 44 1 (rowsV rs) :: slc (.slice Au lu cu) 43 2 (prs cs) :: rowsC 3 rs) := by
 have hu0 := hu
 obtain ⟨Al, cl, rfl, hr, hlc, hcm, hle⟩ := hv
 obtain ⟨Ac, cc, rfl, hrc, hlcc, hcmc, hlec⟩ := hu
 refine Ao (args := [_]) (L := []) Tryz.func12 rfl Tryz.ntmps12 rfl (Own.start _ _) ?_
 refine Zs ?_
 refine Zw (AX rfl rfl rfl) fun g1 => ?_
 refine Zw (Ay rfl J8 rfl) fun g2 => ?_
 refine Zx <| DC.seq ?_
 refine AC (cl := [.q, .v, .n, .q, .v, .r, .q, .n, .g]) (A := [0, 1, 0, 0, 8, 28, 63, 0, 255]) (order := [0, 1, 3, 4, 2, 5, 6, 7, 8]) [] mixed (by kernel_rfl) (fun w hw => hw.pick .nil) ?_
 refine Yf Ex ?_
 refine Yl MO ?_
 refine Yf DZ ?_
 refine Yl B9 ?_
 refine Be rfl rfl rfl rfl (AM (cs := #[]) rfl rfl Ru AP B6 rfl (by decide) (by decide) rfl rfl) fun g7 => ?_
 refine BK rfl rfl rfl rfl (Hl rfl rfl rfl Ru AP KU B6 rfl (by decide) (by decide) (PrV.src2 (w := w) hu0) (by simp) (by omega)) ?_
 rintro _ _ ⟨⟨Au, lu, cu, rfl⟩, rfl⟩
 refine Yo rfl (As (cs := #[_, _, _]) rfl rfl MG rfl rfl) ?_
 refine Be rfl rfl rfl rfl (Ay rfl J8 rfl) fun g3 => ?_
 refine Flow.sto (V := [blk g3 27 #[.bool false, .slice none 0 0, .slice none 0 0], ap0 (.slice Au lu cu) g7 43 2 (prs cs), blk g7 43 #[], blk g2 27 #[.bool false, .slice none 0 0, .slice none 0 0], blk g1 27 #[.bool pl, .slice Al ls.length cl, .slice Ac cs.length cc]]) rfl rfl rfl rfl rfl (Ah (cs' := #[_, _, _]) rfl rfl rfl BA rfl (Ra rfl) rfl) (fun w hw => hw.pick (.nil)) ?_
 refine Flow.end rfl ?_
 simp only [zq, zr]
 refine Fin.then <| DC.seq <| Zs ?_
 refine Za ?_
 refine Zx <| DC.block ?_
 refine DC.own (M := slc (.slice none 0 0) 44 1 [] :: blk g3 27 #[.bool pl, .slice none 0 0, .slice Au lu cu] :: slc (.slice Au lu cu) 43 2 (prs cs) :: blk g2 27 #[.bool false, .slice none 0 0, .slice none 0 0] :: blk g1 27 #[.bool pl, .slice Al ls.length cl, .slice Ac cs.length cc] :: rowsC 3 []) (fun w hw => AU (t := 44) (m := 1) ?_) ?_
 ·have k3 : Own _ _ w (slc _ _ _ _ :: _) := Lu (by decide) (hw.pick (.cons 1 rfl (.cons 1 rfl (Pick.all _))))
  exact k3.pick (.cons 1 rfl (.cons 0 rfl (Pick.all _)))
 refine DC.loop (ι := CcI) (fun j => j.i ≤ ls.length ∧ j.rs.map Prod.snd = ls.take j.i)
  (fun j => [(1, .pointer (some ⟨g1, 0, none⟩)), (2, .pointer (some ⟨g2, 0, none⟩)), (3, .pointer (some ⟨g3, 0, none⟩)), (4, .int .i64 j.i)])
  (fun j => slc j.v 44 1 (rowsV j.rs) :: blk g3 27 #[.bool pl, j.v, .slice Au lu cu] :: slc (.slice Au lu cu) 43 2 (prs cs) :: blk g2 27 #[.bool false, .slice none 0 0, .slice none 0 0] :: blk g1 27 #[.bool pl, .slice Al ls.length cl, .slice Ac cs.length cc] :: rowsC 3 j.rs) (fun j => ls.length - j.i) ⟨0, .slice none 0 0, []⟩ ⟨Nat.zero_le _, rfl⟩ ⟨rfl, rfl, rfl, rfl, trivial⟩ (Pick.all _) ?_
 rintro ⟨i, v, rs⟩ ⟨hi, hrs⟩
 dsimp only at hi hrs ⊢
 have hrl : rs.length = i := by have := congrArg List.length hrs; simp at this; omega
 refine DC.seq <| Zs ?_
 refine Zm ?_
 refine Zf C4 ?_
 refine Zl Fr ?_
 refine Zn Rw ?_
 refine Zc ?_
 refine Zx ?_
 refine Zd (fun c3 => ?_) fun c3 => ?_
 ·have hlt : i < ls.length := by simpa using c3
  obtain ⟨l, hl⟩ : ∃ l, ls[i]? = some l := ⟨_, Q8 hlt⟩
  obtain ⟨ad, lv, rfl, hc, hsl⟩ := hr i l hl
  have hll := hs l (Rc hl)
  have hlsh : ∃ A c, lv = .slice A l.length c := by obtain ⟨A, c, h, _⟩ := hsl; exact ⟨A, c, h⟩
  obtain ⟨Ax, cx, rfl⟩ := hlsh
  refine DC.skip <| Fin.then <| DC.seq <| DC.block ?_
  refine AC (cl := [.q, .v, .n, .q, .v, .q, .q, .v, .r, .n, .g, .q, .g]) (A := [0, 1, 0, 0, 8, 0, 56, 120, 252, 508, 1023, 2047, 4095]) (order := [0, 1, 3, 4, 5, 6, 7, 2, 8, 9, 10, 11, 12]) [] mixed (by kernel_rfl) (fun w hw => hw.pick .nil) ?_
  refine Yf C4 ?_
  refine Yl Fr ?_
  refine Yf C4 ?_
  refine Yl Fr ?_
  refine Ym ?_
  refine Yo rfl (Aw (ad' := ad.add i) rfl rfl rfl Rw Cn (by omega) (by omega) rfl) ?_
  refine Ar rfl rfl rfl rfl (Ak rfl rfl BS (AY hc)) ?_
  refine Be rfl rfl rfl rfl (AM (cs := #[]) rfl rfl Rt AN Cg rfl (by decide) (by decide) rfl rfl) fun g21 => ?_
  refine BK rfl rfl rfl rfl (Hl rfl rfl rfl Rt AN E5 Cg rfl (by decide) (by decide) (SlV.src2 (w := w) hsl) (by simp) (by omega)) ?_
  rintro _ _ ⟨⟨A27, l27, c27, rfl⟩, rfl⟩
  refine Be rfl rfl rfl rfl (AM (cs := #[_]) rfl rfl Rw Cn DJ rfl (by decide) (by decide) rfl rfl) fun g28 => ?_
  refine CL (V := (blk g28 44 #[.slice A27 l27 c27] :: ap0 (.slice A27 l27 c27) g21 3 1 (ints l) :: blk g21 3 #[] :: slc v 44 1 (rowsV rs) :: blk g3 27 #[.bool pl, v, .slice Au lu cu] :: slc (.slice Au lu cu) 43 2 (prs cs) :: blk g2 27 #[.bool false, .slice none 0 0, .slice none 0 0] :: blk g1 27 #[.bool pl, .slice (some ad) ls.length cl, .slice Ac cs.length cc] :: rowsC 3 rs)) rfl rfl rfl rfl rfl ((AR (F := blk g28 44 #[.slice A27 l27 c27] :: ap0 (.slice A27 l27 c27) g21 3 1 (ints l) :: blk g21 3 #[] :: blk g3 27 #[.bool pl, v, .slice Au lu cu] :: slc (.slice Au lu cu) 43 2 (prs cs) :: blk g2 27 #[.bool false, .slice none 0 0, .slice none 0 0] :: blk g1 27 #[.bool pl, .slice (some ad) ls.length cl, .slice Ac cs.length cc] :: rowsC 3 rs) (vs := rowsV rs) (news := [.slice A27 l27 c27]) (k := 1) rfl rfl rfl Rw Cn KT DJ rfl (by decide) (by decide) (fun w hw => hw.pick (.cons 3 rfl (Pick.all _))) (.inl ⟨_, _, rfl, Ai rfl⟩) rfl (fun u hu => by rw [List.mem_singleton.1 hu]; rfl) (by simp; omega)).shape) (fun v L' hC w hw => hw.pick (.nil)) ?_
  rintro _ _ ⟨⟨A29, l29, c29, rfl⟩, rfl⟩
  refine Yf C4 ?_
  refine AD rfl rfl rfl rfl (AB (cs' := #[_, _, _]) rfl rfl rfl Oo rfl (Ra rfl) rfl) (fun w hw => hw.pick (.nil)) ?_
  refine Flow.end rfl ?_
  simp only [zq, zr]
  refine Fin.inBlock <| Fin.then <| DC.region ?_
  refine Zm ?_
  refine Zp ?_
  refine Za ?_
  refine Seq.nil ?_
  refine Fin.own (M := slc (.slice A29 l29 c29) 44 1 (rowsV (rs ++ [(.slice A27 l27 c27, l)])) :: blk g3 27 #[.bool pl, .slice A29 l29 c29, .slice Au lu cu] :: slc (.slice Au lu cu) 43 2 (prs cs) :: blk g2 27 #[.bool false, .slice none 0 0, .slice none 0 0] :: blk g1 27 #[.bool pl, .slice (some ad) ls.length cl, .slice Ac cs.length cc] :: rowsC 3 (rs ++ [(.slice A27 l27 c27, l)])) (fun w hw => ?_) ?_
  ·have e1 : rowsV (rs ++ [(.slice A27 l27 c27, l)]) = rowsV rs ++ [.slice A27 l27 c27] := by simp [rowsV]
   have e2 : rowsC 3 (rs ++ [(.slice A27 l27 c27, l)]) = rowsC 3 rs ++ [slc (.slice A27 l27 c27) 3 1 (ints l)] := by simp [rowsC]
   rw [e1, e2]
   have k3 : Own _ _ w (slc _ _ _ _ :: _) := Lu (by decide) (hw.pick (.cons 2 rfl (.cons 2 rfl (.cons 0 rfl (.cons 1 rfl (.cons 1 rfl (.cons 1 rfl (.cons 1 rfl (BD _ _)))))))))
   refine k3.perm ?_
   exact Rr (l₁ := slc (.slice A29 l29 c29) 44 1 (rowsV rs ++ [.slice A27 l27 c27]) :: blk g3 27 #[.bool pl, .slice A29 l29 c29, .slice Au lu cu] :: slc (.slice Au lu cu) 43 2 (prs cs) :: blk g2 27 #[.bool false, .slice none 0 0, .slice none 0 0] :: blk g1 27 #[.bool pl, .slice (some ad) ls.length cl, .slice Ac cs.length cc] :: rowsC 3 rs) (l₂ := [slc (.slice A27 l27 c27) 3 1 (ints l)])
  refine Fin.again ⟨i + 1, .slice A29 l29 c29, rs ++ [(.slice A27 l27 c27, l)]⟩ (by dsimp only; omega) ⟨by dsimp only; omega, by dsimp only; rw [List.map_append, hrs, List.take_add_one, hl]; rfl⟩ ⟨rfl, rfl, rfl, rfl, trivial⟩ (Pick.all _)
 refine DC.exit <| Ad <| Ad <| Ag <| Fin.then <| DC.seq ?_
 have hie : i = ls.length := by simp at c3; omega
 refine F1 (i := 0) (v := v) rfl ?_
 rintro Av cv rfl hAv
 refine DC.region ?_
 refine Zu (Aq (vs := [_, _, _]) rfl rfl B7 BA rfl (Ai rfl)) ?_
 refine Zy (Ah (cs' := #[_, _, _]) rfl rfl rfl BA rfl (Ra rfl) rfl) ?_
 refine Zx <| DC.ret ?_
 refine BT (cs := #[_, _, _]) (.inl rfl) rfl rfl B7 BA ?_
 refine ⟨slc (.slice Av (rowsV rs).length cv) 44 1 (rowsV rs) :: slc (.slice Au lu cu) 43 2 (prs cs) :: rowsC 3 rs, fun w hw => ?_, Av, _, cv, Au, lu, cu, rs, rfl, by rw [hrs, hie, List.take_length], rfl⟩
 exact hw.pick (.cons 0 rfl (.cons 1 rfl (CI _ (CI _ (BD _ _)))))
end Go.Fl

namespace Go.Fl
open Go
section
variable {P : Program} {ops : Array Oper} {w0 w : World} {K : List Nat} {n : Nat} {ds : List Deferred} {E : Env} {L F : List Chunk} {o : Oper} {x y z : Operand} {v u : Value} {Q : Exit → Act → World → Prop}
theorem DC.scope {c : Code} (h : DC P w0 K n ds (Exit.noGoto Q) c E L) : DC P w0 K n ds Q (.scope c) E L := fun a w ha hL => wp_scope_straight (h a w ha hL)
theorem DC.label {l : Nat} (h : Fin w0 K n ds (Q .normal) E L) : DC P w0 K n ds Q (.label l) E L := fun a w ha hL => wp_label (h a w ha hL)
theorem Fin.scope (h : Fin w0 K n ds (Q .normal) E L) : Fin w0 K n ds (Exit.noGoto Q .normal) E L := h
theorem BV (h : Fin w0 K n ds (Q .ret) E L) : Fin w0 K n ds (Exit.noGoto Q .ret) E L := h
theorem Lz {ty : TypeId} {g t : Nat} {cs : Array Value} (hg : w.heap[g]? = some (.cells cs t (0, 0))) (ht : aggT P ty = some true) (hs : sizeT P ty = some cs.size) : (loadVar ty ⟨g, 0, none⟩).run P w = .ok (.agg cs) w := D8 hg ht hs
theorem B5 {fn : Func} {p q : Tmp} {ty ty' : TypeId} {g t g' t' : Nat} {cs cs' : Array Value} {C : Value → List Chunk → Prop} {e : Exit} (he : e = .ret ∨ e = .normal) (hr : fn.results = #[.cell p ty, .cell q ty'])
  (hv : ev n E (.tmp p) = some (.pointer (some ⟨g, 0, none⟩))) (hv' : ev n E (.tmp q) = some (.pointer (some ⟨g', 0, none⟩))) [h : Find L g t cs] [h' : Find L g' t' cs'] (ht : aggT P ty = some true) (hs : sizeT P ty = some cs.size) (ht' : aggT P ty' = some true) (hs' : sizeT P ty' = some cs'.size)
  (hR : ∃ L', (∀ w, Own w0 K w L → Own w0 K w L') ∧ C (.tuple #[.agg cs, .agg cs']) L') : Fin w0 K n [] (bodyPost P fn (Ret w0 K C) e) E L := by
 intro a w ha hO
 obtain ⟨L', hL, hC⟩ := hR
 have hp : a.tmps.getD p undef = .pointer (some ⟨g, 0, none⟩) := by have := ha.ev hv; simpa only [Act.eval] using this
 have hq : a.tmps.getD q undef = .pointer (some ⟨g', 0, none⟩) := by have := ha.ev hv'; simpa only [Act.eval] using this
 have h1 : a.defers = [] ∧ ∃ v, (results fn a.tmps).run P w = .ok v w ∧ Ret w0 K C (.returned v) w :=
  ⟨ha.defers, _, E8 hr hp hq (Lz (hO.holds _ h.mem) ht hs) (Lz (hO.holds _ h'.mem) ht' hs'), _, L', rfl, hC, hL w hO⟩
 rcases he with rfl | rfl <;> exact h1
/-- A token out of a slice of ours. -/
theorem Ic {i j t l c : Nat} {ad : Addr} {tk : List Tk} {k : Tk} (hi : L[i]? = some (slc (.slice (some ad) l c) t 4 (tks tk))) (hj : tk[j]? = some k) :
  Hass w0 K L (ad.add (j * 4)) [.int .i64 k.kd, .int .i64 k.fr, .int .i64 k.en, .int .i64 k.nu] := by
 obtain ⟨h1, h2, h3, h4⟩ := HQ hj
 intro w hw m u hm
 have hr := hw.perm (AE hi).symm
 obtain ⟨A, len, cap, e, _, hR, _⟩ := CO hr
 cases e
 have key : ∀ {q : Nat} {u : Value}, (tks tk)[j * 4 + q]? = some u → w.cell? ((ad.add (j * 4)).add q) = some u := by
  intro q u hq
  obtain ⟨ad', e, hc⟩ := hR _ _ hq
  cases e
  by_cases h0 : q = 0
  ·subst h0
   have : (ad.add (j * 4)).add 0 = ad.add (j * 4) := by simp [Addr.add]
   rw [this]; exact hc
  rw [F0 _ _ _ (by omega)]; exact hc
 match m, hm with
 | 0, hm => simp at hm; subst hm; exact key h1
 | 1, hm => simp at hm; subst hm; exact key h2
 | 2, hm => simp at hm; subst hm; exact key h3
 | 3, hm => simp at hm; subst hm; exact key h4
theorem CS {i j t l c : Nat} {ad : Addr} {tk : List Tk} {k : Tk} (hi : L[i]? = some (slc (.slice (some ad) l c) t 4 (tks tk))) (hj : tk[j]? = some k) (q : Nat) (hq : [Value.int .i64 k.kd, .int .i64 k.fr, .int .i64 k.en, .int .i64 k.nu][q]? = some u) :
  Has w0 K L ((ad.add (j * 4)).add q) u := fun w hw => Ic hi hj w hw q u hq
/-- A slice of tokens that reads so. -/
def TkV (w : World) (v : Value) (tk : List Tk) : Prop := ∃ A cap, v = .slice A tk.length cap ∧ Rd w A (tks tk) ∧ tk.length ≤ cap ∧ cap ≤ 9223372036854775807
theorem HP {t : Nat} {tk : List Tk} (hw : Own w0 K w L) (i : Nat) (h : L[i]? = some (slc v t 4 (tks tk))) : TkV w v tk := by
 obtain ⟨A, len, cap, rfl, h1, hr, h2, h3⟩ := CO (hw.perm (AE h).symm)
 simp at h1
 obtain rfl : tk.length = len := by omega
 exact ⟨A, cap, rfl, hr, h2, h3⟩
theorem Rd.tk {A : Option Addr} {tk : List Tk} {i : Nat} {k : Tk} (h : Rd w A (tks tk)) (hi : tk[i]? = some k) : ∃ ad, A = some ad ∧ ∀ (q : Nat) u, [Value.int .i64 k.kd, .int .i64 k.fr, .int .i64 k.en, .int .i64 k.nu][q]? = some u → w.cell? (ad.add (i * 4 + q)) = some u := by
 obtain ⟨h1, h2, h3, h4⟩ := HQ hi
 obtain ⟨ad, rfl, _⟩ := h _ _ h1
 refine ⟨ad, rfl, fun q u hq => ?_⟩
 have key : ∀ {q : Nat} {u : Value}, (tks tk)[i * 4 + q]? = some u → w.cell? (ad.add (i * 4 + q)) = some u := by
  intro q u hq
  obtain ⟨ad', e, hc⟩ := h _ _ hq
  cases e; exact hc
 match q, hq with
 | 0, hq => simp at hq; subst hq; exact key h1
 | 1, hq => simp at hq; subst hq; exact key h2
 | 2, hq => simp at hq; subst hq; exact key h3
 | 3, hq => simp at hq; subst hq; exact key h4
end
/-! ### lines of a graph's text -/
structure RdS where
 n : Int
 ps : List Pr
 hd : Bool
 m : Int
inductive LnA where
 | ok (s : RdS)
 | bad (c a : Int)
def lineF (s : RdS) (l : List Tk) : LnA :=
 match l with
 | [] => .bad 0 0
 | t :: r =>
  if s.hd = false then
   match r with
   | [u] => if 1048576 < t.nu then .bad 21 t.fr else if 2097152 < u.nu then .bad 22 u.fr else .ok ⟨t.nu, s.ps, true, u.nu⟩
   | _ => .bad 20 t.fr
  else if s.m ≤ (s.ps.length : Int) then .bad 26 t.fr
  else
   match r with
   | [u] => if s.n ≤ t.nu then .bad 24 t.fr else if s.n ≤ u.nu then .bad 24 u.fr else .ok ⟨s.n, s.ps ++ [(t.nu, u.nu)], true, s.m⟩
   | _ => .bad 23 t.fr
/-- The lines of the tokens that are left, l what the line has so far. -/
def feedF (s : RdS) (l : List Tk) : List Tk → LnA
 | [] => .ok s
 | t :: r =>
  if t.kd = 1 then feedF s (l ++ [t]) r
  else
   match (if l = [] then LnA.ok s else lineF s l) with
   | .bad c a => .bad c a
   | .ok s' => if t.kd = 3 then .ok s' else feedF s' [] r
inductive RawA where
 | ok (n : Int) (ps : List Pr)
 | bad (c a : Int)
def endF (k : Nat) : LnA → RawA
 | .bad c a => .bad c a
 | .ok s => if s.hd = false then .bad 20 k else if (s.ps.length : Int) < s.m then .bad 25 k else .ok s.n s.ps
def rawF (bs : List UInt8) : RawA :=
 if 16777216 < bs.length then .bad 10 16777216
 else
  match scanA bs with
  | .bad a e => .bad e a
  | .ok tk => endF bs.length (feedF ⟨0, [], false, 0⟩ [] tk)
theorem Fm {s : RdS} {l r : List Tk} {t : Tk} (h : t.kd = 1) : feedF s l (t :: r) = feedF s (l ++ [t]) r := by simp [feedF, h]
theorem Mw {s : RdS} {l r : List Tk} {t : Tk} {c a : Int} (h : t.kd ≠ 1) (hl : l ≠ []) (hb : lineF s l = .bad c a) : feedF s l (t :: r) = .bad c a := by simp [feedF, h, hl, hb]
theorem HD {s s' : RdS} {l r : List Tk} {t : Tk} (h : t.kd ≠ 1) (hl : (l = [] ∧ s' = s) ∨ (l ≠ [] ∧ lineF s l = .ok s')) (h3 : t.kd = 3) : feedF s l (t :: r) = .ok s' := by
 rcases hl with ⟨h1, rfl⟩ | ⟨h1, h2⟩
 ·simp [feedF, h1, h3]
 simp [feedF, h1, h2, h3]
theorem GK {s s' : RdS} {l r : List Tk} {t : Tk} (h : t.kd ≠ 1) (hl : (l = [] ∧ s' = s) ∨ (l ≠ [] ∧ lineF s l = .ok s')) (h3 : t.kd ≠ 3) : feedF s l (t :: r) = feedF s' [] r := by
 rcases hl with ⟨h1, rfl⟩ | ⟨h1, h2⟩
 ·simp [feedF, h, h1, h3]
 simp [feedF, h, h1, h2, h3]
theorem Mo {s s' : RdS} {l : List Tk} (h : lineF s l = .ok s') : s'.ps.length ≤ s.ps.length + 1 := by
 unfold lineF at h
 split at h
 ·cases h
 split at h
 ·split at h
  ·split at h
   ·cases h
   split at h
   ·cases h
   cases h; simp
  cases h
 split at h
 ·cases h
 split at h
 ·split at h
  ·cases h
  split at h
  ·cases h
  cases h; simp
 cases h
theorem LY : ∀ (k : Nat) (l : List UInt8) (at' : Nat) (acc : List Tk) {a e : Int}, l.length ≤ k → scanF at' l acc = .bad a e → e ≠ 0 := by
 intro k
 induction k with
 | zero =>
  intro l at' acc a e hk h
  rw [Ro (by omega : l.length = 0)] at h
  simp [scanF] at h
 | succ k ih =>
  intro l at' acc a e hk h
  match l, hk, h with
  | [], hk, h => simp [scanF] at h
  | c :: r, hk, h =>
   simp at hk
   rw [scanF] at h
   split at h
   ·split at h
    ·cases h; decide
    exact ih _ _ _ (by simp; omega) h
   split at h
   ·exact ih _ _ _ hk h
   split at h
   ·exact ih _ _ _ hk h
   cases h; decide
theorem L4 {bs : List UInt8} {a e : Int} (h : scanA bs = .bad a e) : e ≠ 0 := by
 unfold scanA at h
 split at h
 ·cases h; decide
 exact LY _ _ _ _ (Nat.le_refl _) h
section
variable {w0 w : World} {K : List Nat} {F : List Chunk}
theorem Nh {t m len cap : Nat} {A : Option Addr} {vs : List Value} (hm : 0 < m) (hw : Own w0 K w (slc (.slice A len cap) t m vs :: F)) : Own w0 K w (slc (.slice A 0 cap) t m [] :: F) := by
 rcases BR hw with ⟨e, rfl, _⟩ | ⟨g, len', cap', sp, e, h1, h2, h3, h4, hO⟩
 ·cases e; exact hw
 cases e
 exact B3 (m := m) (by simp) hm (Nat.zero_le _) h3 (by simp at h4 ⊢; omega) (by simp) hO
theorem Mf {L : List Chunk} {t m len cap : Nat} {A : Option Addr} {vs : List Value} (i : Nat) (hi : L[i]? = some (slc (.slice A len cap) t m vs)) (hm : 0 < m) (hw : Own w0 K w L) : Own w0 K w (slc (.slice A 0 cap) t m [] :: L.eraseIdx i) :=
 Nh hm (hw.perm (AE hi).symm)
theorem MM {P : Program} {n : Nat} {ds : List Deferred} {E : Env} {L : List Chunk} {v : Value} {Q : Exit → Act → World → Prop} {c : Code} {t : Nat} {tk : List Tk} (i : Nat) (hi : L[i]? = some (slc v t 4 (tks tk))) (h : (∃ A c, v = .slice A tk.length c) → DC P w0 K n ds Q c E L) : DC P w0 K n ds Q c E L := by
 intro a w ha hw
 obtain ⟨A, cap, e, _⟩ := HP hw i hi
 exact h ⟨A, cap, e⟩ a w ha hw
theorem Ft {P : Program} {n : Nat} {ds : List Deferred} {E : Env} {L : List Chunk} {v : Value} {Q : Exit → Act → World → Prop} {c : Code} {t : Nat} {es : List Pr} (i : Nat) (hi : L[i]? = some (slc v t 2 (prs es))) (hf : es.length ≤ 8796093021952) (h : (∃ A c, v = .slice A es.length c) → DC P w0 K n ds Q c E L) : DC P w0 K n ds Q c E L := by
 intro a w ha hw
 obtain ⟨A, cap, e, _⟩ := BZ hw i hi hf
 exact h ⟨A, cap, e⟩ a w ha hw
end
end Go.Fl

namespace Go.Fl
open Go Go.Proofs
open Classical
noncomputable def tailP (pl : Bool) (bs : List UInt8) : Nat → Nat → List (List Int) → List Pr → Option (List (List Int) × List Pr × Nat)
 | 0, i, ls, cs => some (ls, cs, i)
 | k + 1, i, ls, cs => if pl then
   (match listP bs i with
   | none => none
   | some (l, j) => tailP pl bs k j (ls ++ [l]) cs)
  else
   (match edgeP bs i cs with
   | none => none
   | some (e, j) => tailP pl bs k j ls (cs ++ [e]))
noncomputable def midP (pl : Bool) (bs : List UInt8) : Option (Bool × List (List Int) × List Pr) :=
 if bs[1]? = some 32 then
  (match numP bs 2 with
  | none => none
  | some (k, j) => if (if pl then 1048576 else 4194304) < k then none else if bs[j]? = some 10 then
    (match tailP pl bs k.toNat (j + 1) [] [] with
    | none => none
    | some (ls, cs, e) => if e = bs.length then some (pl, ls, cs) else none)
   else none)
 else none
/-- What a certificate's text says. -/
noncomputable def certP (bs : List UInt8) : Option (Bool × List (List Int) × List Pr) :=
 if bs[0]? = some 112 then midP true bs else if bs[0]? = some 110 then midP false bs else none
theorem ML {P : Program} {w0 : World} {K : List Nat} {n : Nat} {ds : List Deferred} {E : Env} {L : List Chunk} {v : Value} {Q : Exit → Act → World → Prop} {c : Code} {t : Nat} {vs : List Value} (i : Nat) (hi : L[i]? = some (slc v t 1 vs)) (h : (∃ A c, v = .slice A vs.length c) → DC P w0 K n ds Q c E L) : DC P w0 K n ds Q c E L := by
 intro a w ha hw
 obtain ⟨A, len, cap, e, hl, _⟩ := CO (hw.perm (AE hi).symm)
 rw [Nat.mul_one] at hl
 exact h ⟨A, cap, by rw [hl]; exact e⟩ a w ha hw
theorem DP {w0 w : World} {K : List Nat} {c : Chunk} {F : List Chunk} {t t' m m' : Nat} (hw : Own w0 K w (c :: F)) : Own w0 K w [c, slc (.slice none 0 0) t m [], slc (.slice none 0 0) t' m' []] := by
 have h1 := AU (t := t) (m := m) (AU (t := t') (m := m') (hw.sub (L' := [c]) (.cons_cons _ (Rh _))))
 exact h1.perm ((Rr (l₁ := [c]) (l₂ := [slc (.slice none 0 0) t m [], slc (.slice none 0 0) t' m' []])))
structure CeI where
 i : Nat
 a : Nat
 bad : Int
 v : Value
 u : Value
 rs : RL
 cs : List Pr
theorem JU {g : Nat} {vb : Value} {bad : Int} {bs : List UInt8} {w : World} (hO : Own w (idsOf [rdC g vb 0 bad]) w [rdC g vb 0 bad]) (hB : ByV w vb bs) (ho : ByO vb bs (idsOf [rdC g vb 0 bad])) (hb : bs.length ≤ 33554432) :
  Calls Tryz.prog 40 #[.pointer (some ⟨g, 0, none⟩)] w (Ret w (idsOf [rdC g vb 0 bad]) fun r M => ∃ pl v u ok j bad' rs cs, r = .tuple #[.agg #[.bool pl, v, u], .bool ok] ∧ M = rdC g vb j bad' :: slc v 44 1 (rowsV rs) :: slc u 43 2 (prs cs) :: rowsC 3 rs ∧
   (rs.length ≤ 4194304 ∧ cs.length ≤ 4194304 ∧ ∀ p, p ∈ rs → p.2.length ≤ bs.length) ∧ (ok = true → certP bs = some (pl, rs.map Prod.snd, cs)) ∧ (ok = false → certP bs = none)) := by
 obtain ⟨A, cap, hvb, hR, hb1, hb2⟩ := id hB
 subst hvb
 refine Ao (args := [_]) Tryz.func40 rfl Tryz.ntmps40 rfl hO ?_
 refine Zs ?_
 refine Zw (Ay rfl J8 rfl) fun g2 => ?_
 refine Za ?_
 refine Zx <| Zs ?_
 refine Zw (Ay rfl J8 rfl) fun g4 => ?_
 refine Zx <| DC.seq ?_
 refine DC.own (M := [rdC g (.slice A bs.length cap) 0 bad, blk g4 27 #[.bool false, (.slice none 0 0), (.slice none 0 0)], blk g2 27 #[.bool false, (.slice none 0 0), (.slice none 0 0)]]) (fun w hw => hw.pick (.cons 2 rfl (.cons 0 rfl (.cons 0 rfl .nil)))) ?_
 refine DC.region ?_
 refine Zm ?_
 refine Seq.rel0 rfl rfl (Am NK rfl rfl rfl (fun w hw => C9 (i := 0) (bad := bad) (c := 112) (hw.holds _ (Ri ..)) (hB.keep ho hw))) ?_
 rintro _ ⟨b14, rfl, hb14⟩
 refine Zf Ex ?_
 refine Zy (AB (cs' := #[_, _, _]) rfl rfl rfl IF rfl (Ra rfl) rfl) ?_
 refine Zx ?_
 refine DC.cut (ι := Bool) (fun pl => certP bs = midP pl bs) (fun _ => [(0, .pointer (some ⟨g, 0, none⟩)), (2, .pointer (some ⟨g2, 0, none⟩)), (4, .pointer (some ⟨g4, 0, none⟩))])
  (fun pl => [rdC g (.slice A bs.length cap) 0 bad, blk g4 27 #[.bool pl, (.slice none 0 0), (.slice none 0 0)], blk g2 27 #[.bool false, (.slice none 0 0), (.slice none 0 0)]]) ?first4 ?rest4
 case first4 =>
  refine Zs ?_
  refine Zf Ex ?_
  refine Zl MO ?_
  refine Zo (Bb rfl rfl) ?_
  refine Zm ?_
  refine Seq.split 19 rfl (fun k3_3 => ?_) (fun k3_3 => ?_)
  ·refine Zm ?_
   refine Seq.rel0 rfl rfl (Am NK rfl rfl rfl (fun w hw => C9 (i := 0) (bad := bad) (c := 110) (hw.holds _ (Ri ..)) (hB.keep ho hw))) ?_
   rintro _ ⟨b21, rfl, hb21⟩
   refine Zo (Bb rfl rfl) ?_
   refine Zt ?_
   refine Zx ?_
   refine Zd (fun c3 => ?_) fun c3 => ?_
   ·refine DC.seq ?_
    refine AC (cl := [.q, .q, .g, .g, .q]) (A := [0, 0, 2, 7, 15]) (order := [0, 1, 2, 3, 4]) ([blk g4 27 #[.bool b14, (.slice none 0 0), (.slice none 0 0)]]) mixed (by kernel_rfl) (fun w hw => hw.pick (.cons 1 rfl .nil)) ?_
    refine Flow.old rfl rfl rfl (Aq (vs := [_, _, _]) rfl rfl B7 BA rfl (Ai rfl)) ?_
    refine Ym ?_
    refine Flow.gen0 rfl rfl rfl rfl (AQ G8 rfl rfl rfl (Lc := [rdC g (.slice A bs.length cap) 0 bad]) (F := [blk g4 27 #[.bool b14, (.slice none 0 0), (.slice none 0 0)], blk g2 27 #[.bool false, (.slice none 0 0), (.slice none 0 0)]]) (.refl _) (fun k hk => hk) (fun w hw => BC (hw.sub (L' := [rdC g (.slice A bs.length cap) 0 bad]) (.cons_cons _ (Rh _))).self)) (fun v L' hC w hw => hw.pick (by obtain ⟨_, ⟨_, _, rfl⟩, rfl⟩ := hC; exact .cons 1 rfl .nil)) ?_
    rintro _ _ ⟨_, ⟨rfl, bad4, rfl⟩, rfl⟩
    simp only [zs]
    refine AD rfl rfl rfl rfl (Ah (cs' := #[_, _, _]) rfl rfl rfl BA rfl (Ra rfl) rfl) (fun w hw => hw.pick (.cons 1 rfl .nil)) ?_
    refine Yo rfl (AF rfl rfl) ?_
    refine Flow.end rfl ?_
    simp only [zq, zr]
    refine Fin.then <| DC.ret <| Aa ?_
    refine AK (cs := #[_, _, _]) (.inl rfl) rfl rfl rfl B7 BA ?_
    refine ⟨_, fun w hw => DP hw, b14, _, _, false, 0, bad4, [], [], rfl, rfl, by simp, by simp, fun _ => ?_⟩
    have h1 : ¬ bs[0]? = some 112 := fun h => by rw [hb14.2 h] at k3_3; simp at k3_3
    have h2 : ¬ bs[0]? = some 110 := fun h => by rw [hb21.2 h] at c3; simp at c3
    rw [certP, if_neg h1, if_neg h2]
   refine DC.skip ?_
   refine AO b14 ?_ ⟨rfl, rfl, rfl, trivial⟩ (Pick.all _)
   first
   | (have h1 : b14 = true := by simpa using k3_3
      rw [certP, if_pos (hb14.1 h1), h1])
   | (have h0 : b14 = false := by simpa using k3_3
      have h1 : ¬ bs[0]? = some 112 := fun h => by rw [hb14.2 h] at h0; cases h0
      have h2 : bs[0]? = some 110 := hb21.1 (by simpa using c3)
      rw [certP, if_neg h1, if_pos h2, h0])
  iterate 3 refine Zk ?_
  refine Zg ?_
  refine Zx ?_
  refine Ba rfl ?_
  refine DC.skip ?_
  refine AO b14 ?_ ⟨rfl, rfl, rfl, trivial⟩ (Pick.all _)
  first
  | (have h1 : b14 = true := by simpa using k3_3
     rw [certP, if_pos (hb14.1 h1), h1])
  | (have h0 : b14 = false := by simpa using k3_3
     have h1 : ¬ bs[0]? = some 112 := fun h => by rw [hb14.2 h] at h0; cases h0
     have h2 : bs[0]? = some 110 := hb21.1 (by simpa using c3)
     rw [certP, if_neg h1, if_pos h2, h0])
 intro pl hcp
 unfold rdC
 unfold midP at hcp
 refine Zs ?_
 refine Zm ?_
 refine Zo (AA rfl rfl) ?_
 refine Zf BB ?_
 refine Zl AJ ?_
 refine Zp ?_
 refine Zo (AA rfl rfl) ?_
 refine Zf BB ?_
 refine Zy (AB (cs' := #[_, _, _]) rfl rfl rfl AN rfl (Ra rfl) rfl) ?_
 refine Seq.nil ?_
 refine Fin.weak (E' := [(0, .pointer (some ⟨g, 0, none⟩)), (2, .pointer (some ⟨g2, 0, none⟩)), (4, .pointer (some ⟨g4, 0, none⟩))]) ⟨rfl, rfl, rfl, trivial⟩ (L' := [rdC g (.slice A bs.length cap) 1 bad, blk g4 27 #[.bool pl, (.slice none 0 0), (.slice none 0 0)], blk g2 27 #[.bool false, (.slice none 0 0), (.slice none 0 0)]]) (.cons' 0 rfl rfl (.cons 0 rfl (.cons 0 rfl .nil))) ?_
 refine Fin.then <| DC.seq <| Zs ?_
 refine Zm ?_
 refine Seq.gen rfl rfl (AQ NJ rfl rfl rfl (Lc := [rdC g (.slice A bs.length cap) 1 bad]) (F := [blk g4 27 #[.bool pl, (.slice none 0 0), (.slice none 0 0)], blk g2 27 #[.bool false, (.slice none 0 0), (.slice none 0 0)]]) (.refl _) (fun k hk => hk) (fun w hw => CN (c := 32) (hw.sub (L' := [rdC g (.slice A bs.length cap) 1 bad]) (.cons_cons _ (Rh _))).self (hB.keep ho hw) (ByO.step (L := [rdC g (.slice A bs.length cap) 1 bad]) hB ho (hw.sub (.cons_cons _ (Rh _)))) hb)) ?_
 rintro _ _ ⟨_, ⟨b35, j2, bad2, rfl, rfl, hw1, hw2⟩, rfl⟩
 simp only [zs]
 refine Zo (Bb rfl rfl) ?_
 refine Zx ?_
 refine Zd (fun c6 => ?_) fun c6 => ?_
 ·rw [if_neg (hw2 (by simpa using c6)).1] at hcp
  refine Zs ?_
  refine Zu (Aq (vs := [_, _, _]) rfl rfl B7 BA rfl (Ai rfl)) ?_
  refine Zy (Ah (cs' := #[_, _, _]) rfl rfl rfl BA rfl (Ra rfl) rfl) ?_
  refine Za ?_
  refine Zx <| DC.ret <| Aa ?_
  refine AK (cs := #[_, _, _]) (.inl rfl) rfl rfl rfl B7 BA ?_
  exact ⟨_, fun w hw => DP hw, pl, _, _, false, j2, bad2, [], [], rfl, rfl, by simp, by simp, fun _ => hcp⟩
 obtain ⟨hb32, rfl, hj2l, rfl⟩ := hw1 (by simpa using c6)
 rw [if_pos hb32] at hcp
 refine DC.skip <| Fin.then <| Zs ?_
 refine Za ?_
 refine Zx ?_
 refine DC.cut (ι := Unit) (fun _ => True) (fun _ => [(0, .pointer (some ⟨g, 0, none⟩)), (2, .pointer (some ⟨g2, 0, none⟩)), (4, .pointer (some ⟨g4, 0, none⟩)), (5, .int .i64 (if pl then 1048576 else 4194304))])
  (fun _ => [rdC g (.slice A bs.length cap) (1 + 1) bad2, blk g4 27 #[.bool pl, (.slice none 0 0), (.slice none 0 0)], blk g2 27 #[.bool false, (.slice none 0 0), (.slice none 0 0)]]) ?first10 ?rest10
 case first10 =>
  refine Zs ?_
  refine Zf Ex ?_
  refine Zl MO ?_
  refine Zx ?_
  refine Zd (fun c9 => ?_) fun c9 => ?_
  ·refine DC.region ?_
   refine Za ?_
   refine Seq.nil ?_
   first
   | exact AO () trivial ⟨rfl, rfl, rfl, by show some (Value.int .i64 1048576) = _; rw [if_pos (by simpa using c9)], trivial⟩ (Pick.all _)
   | exact AO () trivial ⟨rfl, rfl, rfl, by show some (Value.int .i64 4194304) = _; rw [if_neg (by simpa using c9)], trivial⟩ (Pick.all _)
  refine DC.skip ?_
  first
  | exact AO () trivial ⟨rfl, rfl, rfl, by show some (Value.int .i64 1048576) = _; rw [if_pos (by simpa using c9)], trivial⟩ (Pick.all _)
  | exact AO () trivial ⟨rfl, rfl, rfl, by show some (Value.int .i64 4194304) = _; rw [if_neg (by simpa using c9)], trivial⟩ (Pick.all _)
 rintro ⟨⟩ _
 refine Zs ?_
 refine Zm ?_
 refine Seq.gen rfl rfl (AQ OQ rfl rfl rfl (Lc := [rdC g (.slice A bs.length cap) (1 + 1) bad2]) (F := [blk g4 27 #[.bool pl, (.slice none 0 0), (.slice none 0 0)], blk g2 27 #[.bool false, (.slice none 0 0), (.slice none 0 0)]]) (.refl _) (fun k hk => hk) (fun w hw => CE (hw.sub (L' := [rdC g (.slice A bs.length cap) (1 + 1) bad2]) (.cons_cons _ (Rh _))).self (hB.keep ho hw) (ByO.step (L := [rdC g (.slice A bs.length cap) (1 + 1) bad2]) hB ho (hw.sub (.cons_cons _ (Rh _)))) hb hj2l)) ?_
 rintro _ _ ⟨_, ⟨n, fine, j, bad3, rfl, rfl, ⟨hij, hjl⟩, hy1, hn1⟩, rfl⟩
 simp only [zs]
 refine Zm ?_
 iterate 3 refine Ze ?_
 iterate 3 refine Za ?_
 refine Zx <| DC.seq <| Zs ?_
 refine Zm ?_
 refine Zo (Bb rfl rfl) ?_
 refine Zx ?_
 refine Zd (fun c12 => ?_) fun c12 => ?_
 ·rw [hn1 (by simpa using c12)] at hcp
  dsimp only at hcp
  refine Zs ?_
  refine Zu (Aq (vs := [_, _, _]) rfl rfl B7 BA rfl (Ai rfl)) ?_
  refine Zy (Ah (cs' := #[_, _, _]) rfl rfl rfl BA rfl (Ra rfl) rfl) ?_
  refine Za ?_
  refine Zx <| DC.ret <| Aa ?_
  refine AK (cs := #[_, _, _]) (.inl rfl) rfl rfl rfl B7 BA ?_
  exact ⟨_, fun w hw => DP hw, pl, _, _, false, j, bad3, [], [], rfl, rfl, by simp, by simp, fun _ => hcp⟩
 obtain ⟨hnum, hij', rfl, hn0, hn9⟩ := hy1 (by simpa using c12)
 rw [hnum] at hcp
 dsimp only at hcp
 obtain ⟨kn, rfl⟩ : ∃ kn : Nat, n = kn := ⟨n.toNat, by omega⟩
 rw [Rb] at hcp
 refine DC.skip <| Fin.then <| DC.seq <| Zs ?_
 iterate 2 refine Zm ?_
 refine Zo (Bx rfl rfl rfl) ?_
 refine Zx ?_
 refine Zd (fun c14 => ?_) fun c14 => ?_
 ·have hlim : (if pl = true then (1048576 : Int) else 4194304) < kn := by simpa using c14
  rw [if_pos hlim] at hcp
  refine DC.seq ?_
  refine AC (cl := [.q, .q, .q, .g, .g, .q]) (A := [0, 0, 0, 6, 15, 31]) (order := [0, 1, 2, 3, 4, 5]) ([blk g4 27 #[.bool pl, (.slice none 0 0), (.slice none 0 0)]]) mixed (by kernel_rfl) (fun w hw => hw.pick (.cons 1 rfl .nil)) ?_
  refine Flow.old rfl rfl rfl (Aq (vs := [_, _, _]) rfl rfl B7 BA rfl (Ai rfl)) ?_
  iterate 2 refine Ym ?_
  refine Flow.gen0 rfl rfl rfl rfl (AQ G8 rfl rfl rfl (Lc := [rdC g (.slice A bs.length cap) j bad3]) (F := [blk g4 27 #[.bool pl, (.slice none 0 0), (.slice none 0 0)], blk g2 27 #[.bool false, (.slice none 0 0), (.slice none 0 0)]]) (.refl _) (fun k hk => hk) (fun w hw => BC (hw.sub (L' := [rdC g (.slice A bs.length cap) j bad3]) (.cons_cons _ (Rh _))).self)) (fun v L' hC w hw => hw.pick (by obtain ⟨_, ⟨_, _, rfl⟩, rfl⟩ := hC; exact .cons 1 rfl .nil)) ?_
  rintro _ _ ⟨_, ⟨rfl, bad4, rfl⟩, rfl⟩
  simp only [zs]
  refine AD rfl rfl rfl rfl (Ah (cs' := #[_, _, _]) rfl rfl rfl BA rfl (Ra rfl) rfl) (fun w hw => hw.pick (.cons 1 rfl .nil)) ?_
  refine Yo rfl (AF rfl rfl) ?_
  refine Flow.end rfl ?_
  simp only [zq, zr]
  refine Fin.then <| DC.ret <| Aa ?_
  refine AK (cs := #[_, _, _]) (.inl rfl) rfl rfl rfl B7 BA ?_
  exact ⟨_, fun w hw => DP hw, pl, _, _, false, j, bad4, [], [], rfl, rfl, by simp, by simp, fun _ => hcp⟩
 have hlim : ¬ (if pl = true then (1048576 : Int) else 4194304) < kn := by simpa using c14
 rw [if_neg hlim] at hcp
 have hkn : kn ≤ 4194304 := by split at hlim <;> omega
 refine DC.skip <| Fin.then <| DC.seq <| Zs ?_
 refine Zm ?_
 refine Seq.gen rfl rfl (AQ NJ rfl rfl rfl (Lc := [rdC g (.slice A bs.length cap) j bad3]) (F := [blk g4 27 #[.bool pl, (.slice none 0 0), (.slice none 0 0)], blk g2 27 #[.bool false, (.slice none 0 0), (.slice none 0 0)]]) (.refl _) (fun k hk => hk) (fun w hw => CN (c := 10) (hw.sub (L' := [rdC g (.slice A bs.length cap) j bad3]) (.cons_cons _ (Rh _))).self (hB.keep ho hw) (ByO.step (L := [rdC g (.slice A bs.length cap) j bad3]) hB ho (hw.sub (.cons_cons _ (Rh _)))) hb)) ?_
 rintro _ _ ⟨_, ⟨b57, j5, bad5, rfl, rfl, hw3, hw4⟩, rfl⟩
 simp only [zs]
 refine Zo (Bb rfl rfl) ?_
 refine Zx ?_
 refine Zd (fun c16 => ?_) fun c16 => ?_
 ·rw [if_neg (hw4 (by simpa using c16)).1] at hcp
  refine Zs ?_
  refine Zu (Aq (vs := [_, _, _]) rfl rfl B7 BA rfl (Ai rfl)) ?_
  refine Zy (Ah (cs' := #[_, _, _]) rfl rfl rfl BA rfl (Ra rfl) rfl) ?_
  refine Za ?_
  refine Zx <| DC.ret <| Aa ?_
  refine AK (cs := #[_, _, _]) (.inl rfl) rfl rfl rfl B7 BA ?_
  exact ⟨_, fun w hw => DP hw, pl, _, _, false, j5, bad5, [], [], rfl, rfl, by simp, by simp, fun _ => hcp⟩
 obtain ⟨hb10, hj5, hj5l, rfl⟩ := hw3 (by simpa using c16)
 rw [if_pos hb10, ← hj5] at hcp
 refine DC.skip <| Fin.then <| DC.seq <| Zs ?_
 iterate 2 refine Zm ?_
 refine Zx <| DC.block ?_
 refine DC.own (M := rdC g (.slice A bs.length cap) j5 bad5 :: blk g4 27 #[.bool pl, (.slice none 0 0), (.slice none 0 0)] :: blk g2 27 #[.bool false, (.slice none 0 0), (.slice none 0 0)] :: slc (.slice none 0 0) 44 1 (rowsV []) :: slc (.slice none 0 0) 43 2 (prs []) :: rowsC 3 []) (fun w hw => ?_) ?_
 ·have h1 := AU (t := 44) (m := 1) (AU (t := 43) (m := 2) hw)
  exact h1.perm (Rr (l₁ := [rdC g (.slice A bs.length cap) j5 bad5, blk g4 27 #[.bool pl, (.slice none 0 0), (.slice none 0 0)], blk g2 27 #[.bool false, (.slice none 0 0), (.slice none 0 0)]]) (l₂ := [slc (.slice none 0 0) 44 1 [], slc (.slice none 0 0) 43 2 []]))
 refine DC.loop (ι := CeI) (fun q => (q.i ≤ kn ∧ q.a ≤ bs.length) ∧ (q.rs.length ≤ q.i ∧ q.cs.length ≤ q.i ∧ ∀ p, p ∈ q.rs → p.2.length ≤ bs.length) ∧ tailP pl bs kn j5 [] [] = tailP pl bs (kn - q.i) q.a (q.rs.map Prod.snd) q.cs)
  (fun q => [(0, .pointer (some ⟨g, 0, none⟩)), (2, .pointer (some ⟨g2, 0, none⟩)), (4, .pointer (some ⟨g4, 0, none⟩)), (60, .int .i64 kn), (61, .int .i64 (q.i : Nat))])
  (fun q => rdC g (.slice A bs.length cap) q.a q.bad :: blk g4 27 #[.bool pl, q.v, q.u] :: blk g2 27 #[.bool false, (.slice none 0 0), (.slice none 0 0)] :: slc q.v 44 1 (rowsV q.rs) :: slc q.u 43 2 (prs q.cs) :: rowsC 3 q.rs) (fun q => kn - q.i) ⟨0, j5, bad5, (.slice none 0 0), (.slice none 0 0), [], []⟩
  ⟨⟨Nat.zero_le _, hj5l⟩, ⟨by simp, by simp, by simp⟩, rfl⟩ ⟨rfl, rfl, rfl, rfl, rfl, trivial⟩ (Pick.all _) ?_
 rintro ⟨i, a, bad6, v, u, rs, cs⟩ ⟨⟨hik, hal⟩, ⟨hrl, hcl, hrw⟩, htl⟩
 dsimp only at hik hal hrl hcl hrw htl ⊢
 refine ML 3 rfl ?_
 rintro ⟨Av, cv, rfl⟩
 refine Ft (i := 4) rfl (by omega) ?_
 rintro ⟨Au, cu, rfl⟩
 refine Zs ?_
 refine Zc ?_
 refine Zx <| DC.seq ?_
 refine Zd (fun c19 => ?_) fun c19 => ?_
 ·have hikl : i < kn := by simpa using c19
  obtain ⟨m, hm⟩ : ∃ m, kn - i = m + 1 := ⟨kn - i - 1, by omega⟩
  have hm' : kn - (i + 1) = m := by omega
  rw [hm, tailP] at htl
  have hnone : tailP pl bs kn j5 [] [] = none → certP bs = none := fun h => by rw [hcp, h]
  refine DC.skip <| Fin.then <| DC.seq <| DC.block <| DC.seq <| Zs ?_
  refine Zf Ex ?_
  refine Zl MO ?_
  refine Zx ?_
  refine Zd (fun c20 => ?_) fun c20 => ?_
  ·have hpl : pl = true := by simpa using c20
   rw [if_pos hpl] at htl
   refine Zs ?_
   refine Zm ?_
   refine Seq.gen rfl rfl (AQ en80 rfl rfl rfl (Lc := [rdC g (.slice A bs.length cap) a bad6]) (F := (blk g4 27 #[.bool pl, .slice Av (rowsV rs).length cv, .slice Au cs.length cu] :: blk g2 27 #[.bool false, (.slice none 0 0), (.slice none 0 0)] :: slc (.slice Av (rowsV rs).length cv) 44 1 (rowsV rs) :: slc (.slice Au cs.length cu) 43 2 (prs cs) :: rowsC 3 rs)) (.refl _) (fun k hk => hk) (fun w hw => JP (hw.sub (L' := [rdC g (.slice A bs.length cap) a bad6]) (.cons_cons _ (Rh _))).self (hB.keep ho hw) (ByO.step (L := [rdC g (.slice A bs.length cap) a bad6]) hB ho (hw.sub (.cons_cons _ (Rh _)))) hb hal)) ?_
   rintro _ _ ⟨_, ⟨vl, ok, xs, j7, bad7, rfl, rfl, ⟨haj, hj7l, hxl⟩, hy7, hn7⟩, rfl⟩
   simp only [zs]
   refine Zm ?_
   iterate 2 refine Ze ?_
   iterate 2 refine Za ?_
   refine Zx <| DC.seq <| Zs ?_
   refine Zm ?_
   refine Zo (Bb rfl rfl) ?_
   refine Zx ?_
   refine Zd (fun c22 => ?_) fun c22 => ?_
   ·rw [hn7 (by simpa using c22)] at htl
    refine Zs ?_
    refine Zu (Aq (vs := [_, _, _]) rfl rfl B7 BA rfl (Ai rfl)) ?_
    refine Zy (Ah (cs' := #[_, _, _]) rfl rfl rfl BA rfl (Ra rfl) rfl) ?_
    refine Za ?_
    refine Zx <| DC.ret <| Aa <| Aa <| Ae <| Aa <| Aa <| Ae <| Aa ?_
    refine AK (cs := #[_, _, _]) (.inl rfl) rfl rfl rfl B7 BA ?_
    exact ⟨rdC g (.slice A bs.length cap) j7 bad7 :: slc (.slice Av (rowsV rs).length cv) 44 1 (rowsV rs) :: slc (.slice Au cs.length cu) 43 2 (prs cs) :: rowsC 3 rs, fun w hw => hw.sub (.cons_cons _ (.cons _ (.cons _ (.cons _ (List.Sublist.refl _))))), pl, _, _, false, j7, bad7, rs, cs, rfl, rfl, ⟨by omega, by omega, hrw⟩, by simp, fun _ => hnone htl⟩
   rw [hy7 (by simpa using c22)] at htl
   dsimp only at htl
   refine DC.slcs (i := 1) (v := vl) rfl (by omega) ?_
   rintro Al cl rfl _
   refine DC.skip <| Fin.then <| Zs ?_
   refine Zf C4 ?_
   refine Zl Fr ?_
   refine Zm ?_
   refine Zw (AM (cs := #[_]) rfl rfl Rw Cn DJ rfl (by decide) (by decide) rfl rfl) fun g76 => ?_
   refine Seq.gen rfl rfl (Gen.shape (AR (F := blk g76 44 #[.slice Al xs.length cl] :: rdC g (.slice A bs.length cap) j7 bad7 :: slc (.slice Al xs.length cl) 3 1 (ints xs) :: blk g4 27 #[.bool pl, .slice Av (rowsV rs).length cv, .slice Au cs.length cu] :: blk g2 27 #[.bool false, (.slice none 0 0), (.slice none 0 0)] :: slc (.slice Au cs.length cu) 43 2 (prs cs) :: rowsC 3 rs) (vs := rowsV rs) (k := 1) (news := [.slice Al xs.length cl]) rfl rfl rfl Rw Cn KT DJ rfl (by decide) (by decide)
    (fun w hw => hw.pick (.cons 5 rfl (Pick.all _))) (.inl ⟨_, _, rfl, Ai rfl⟩) rfl (fun u hu => by rw [List.mem_singleton.1 hu]; rfl) (by rw [rowsV_length]; omega))) ?_
   rintro _ _ ⟨⟨A77, l77, c77, rfl⟩, rfl⟩
   refine Zf C4 ?_
   refine Zy (AB (cs' := #[_, _, _]) rfl rfl rfl Oo rfl (Ra rfl) rfl) ?_
   refine Zx <| DC.exit <| Ad <| Ag <| Fin.then <| DC.region ?_
   refine Zp ?_
   refine Zm ?_
   refine Seq.nil ?_
   refine Fin.own (M := rdC g (.slice A bs.length cap) j7 bad7 :: blk g4 27 #[.bool pl, .slice A77 l77 c77, .slice Au cs.length cu] :: blk g2 27 #[.bool false, (.slice none 0 0), (.slice none 0 0)] :: slc (.slice A77 l77 c77) 44 1 (rowsV (rs ++ [(.slice Al xs.length cl, xs)])) :: slc (.slice Au cs.length cu) 43 2 (prs cs) :: rowsC 3 (rs ++ [(.slice Al xs.length cl, xs)])) (fun w hw => ?_) ?_
   ·have e1 : rowsV (rs ++ [(.slice Al xs.length cl, xs)]) = rowsV rs ++ [.slice Al xs.length cl] := by simp [rowsV]
    have e2 : rowsC 3 (rs ++ [(.slice Al xs.length cl, xs)]) = rowsC 3 rs ++ [slc (.slice Al xs.length cl) 3 1 (ints xs)] := by simp [rowsC]
    rw [e1, e2]
    have k3 : Own _ _ w (slc (.slice Al xs.length cl) 3 1 (ints xs) :: _) := hw.pick (.cons 3 rfl (.cons 2 rfl (.cons 2 rfl (.cons 2 rfl (.cons 0 rfl (.cons 1 rfl (BD _ _)))))))
    refine k3.perm ?_
    exact Rr (l₁ := rdC g (.slice A bs.length cap) j7 bad7 :: blk g4 27 #[.bool pl, .slice A77 l77 c77, .slice Au cs.length cu] :: blk g2 27 #[.bool false, (.slice none 0 0), (.slice none 0 0)] :: slc (.slice A77 l77 c77) 44 1 (rowsV rs ++ [.slice Al xs.length cl]) :: slc (.slice Au cs.length cu) 43 2 (prs cs) :: rowsC 3 rs) (l₂ := [slc (.slice Al xs.length cl) 3 1 (ints xs)])
   refine Fin.again ⟨i + 1, j7, bad7, .slice A77 l77 c77, .slice Au cs.length cu, rs ++ [(.slice Al xs.length cl, xs)], cs⟩ (by dsimp only; omega) ⟨⟨by dsimp only; omega, by dsimp only; omega⟩, ⟨by simp; omega, by dsimp only; omega, ?_⟩, ?_⟩ ⟨rfl, rfl, rfl, rfl, rfl, trivial⟩ (Pick.all _)
   ·intro p hp
    rcases List.mem_append.1 hp with h | h
    ·exact hrw p h
    simp at h; subst h; exact hxl
   dsimp only
   rw [hm', List.map_append]; exact htl
  have hpl : pl = false := by simpa using c20
  rw [if_neg (by simp [hpl])] at htl
  refine DC.skip <| Fin.then <| Zs ?_
  refine Zm ?_
  refine Zf DZ ?_
  refine Zl B9 ?_
  refine Seq.gen rfl rfl (AQ en81 rfl rfl rfl (Lc := [rdC g (.slice A bs.length cap) a bad6]) (F := (blk g4 27 #[.bool pl, .slice Av (rowsV rs).length cv, .slice Au cs.length cu] :: blk g2 27 #[.bool false, (.slice none 0 0), (.slice none 0 0)] :: slc (.slice Av (rowsV rs).length cv) 44 1 (rowsV rs) :: slc (.slice Au cs.length cu) 43 2 (prs cs) :: rowsC 3 rs)) (.refl _) (fun k hk => hk) (fun w hw => JT (es := cs) (hw.sub (L' := [rdC g (.slice A bs.length cap) a bad6]) (.cons_cons _ (Rh _))).self (hB.keep ho hw) (ByO.step (L := [rdC g (.slice A bs.length cap) a bad6]) hB ho (hw.sub (.cons_cons _ (Rh _)))) hb hal
   (fun w' L' hO' => BZ ((Own.frame (Lc := [rdC g (.slice A bs.length cap) a bad6]) (F := (blk g4 27 #[.bool pl, .slice Av (rowsV rs).length cv, .slice Au cs.length cu] :: blk g2 27 #[.bool false, (.slice none 0 0), (.slice none 0 0)] :: slc (.slice Av (rowsV rs).length cv) 44 1 (rowsV rs) :: slc (.slice Au cs.length cu) 43 2 (prs cs) :: rowsC 3 rs)) hw hO' (fun k hk => hk)).sub (List.sublist_append_right _ _)) 3 rfl (by omega)))) ?_
  rintro _ _ ⟨_, ⟨ea, eb, ok, j8, bad8, rfl, rfl, hj8l, hy8, hn8⟩, rfl⟩
  simp only [zs]
  refine Zm ?_
  iterate 2 refine Ze ?_
  refine Zw (Ay rfl B6 rfl) fun g11 => ?_
  refine Zy (Ah (cs' := #[_, _]) rfl rfl rfl AP rfl (Ra rfl) rfl) ?_
  refine Za ?_
  refine Zx <| DC.seq <| Zs ?_
  refine Zm ?_
  refine Zo (Bb rfl rfl) ?_
  refine Zx ?_
  refine Zd (fun c26 => ?_) fun c26 => ?_
  ·rw [hn8 (by simpa using c26)] at htl
   refine Zs ?_
   refine Zu (Aq (vs := [_, _, _]) rfl rfl B7 BA rfl (Ai rfl)) ?_
   refine Zy (Ah (cs' := #[_, _, _]) rfl rfl rfl BA rfl (Ra rfl) rfl) ?_
   refine Za ?_
   refine Zx <| DC.ret <| Aa <| Ae <| Aa <| Aa <| Ae <| Aa ?_
   refine AK (cs := #[_, _, _]) (.inl rfl) rfl rfl rfl B7 BA ?_
   exact ⟨rdC g (.slice A bs.length cap) j8 bad8 :: slc (.slice Av (rowsV rs).length cv) 44 1 (rowsV rs) :: slc (.slice Au cs.length cu) 43 2 (prs cs) :: rowsC 3 rs, fun w hw => hw.pick (.cons 1 rfl (.cons 3 rfl (.cons 3 rfl (CI _ (CI _ (BD _ _)))))), pl, _, _, false, j8, bad8, rs, cs, rfl, rfl, ⟨by omega, by omega, hrw⟩, by simp, fun _ => hnone htl⟩
  rw [hy8 (by simpa using c26)] at htl
  dsimp only at htl
  refine DC.skip <| Fin.then <| DC.region ?_
  refine Zf DZ ?_
  refine Zl B9 ?_
  refine Zu (Aq (vs := [_, _]) rfl rfl BW AP rfl (Ai rfl)) ?_
  refine Zw (AM (cs := #[_, _]) rfl rfl Ru AP B6 rfl (by decide) (by decide) rfl rfl) fun g92 => ?_
  refine Seq.gen rfl rfl (Gen.shape (AR (F := blk g92 43 #[.int .i64 ea, .int .i64 eb] :: blk g11 43 #[.int .i64 ea, .int .i64 eb] :: rdC g (.slice A bs.length cap) j8 bad8 :: blk g4 27 #[.bool pl, .slice Av (rowsV rs).length cv, .slice Au cs.length cu] :: blk g2 27 #[.bool false, (.slice none 0 0), (.slice none 0 0)] :: slc (.slice Av (rowsV rs).length cv) 44 1 (rowsV rs) :: rowsC 3 rs) (vs := prs cs) (k := 1) (news := [.int .i64 ea, .int .i64 eb]) rfl rfl rfl Ru AP KU B6 rfl (by decide) (by decide)
   (fun w hw => hw.pick (.cons 6 rfl (Pick.all _))) (.inl ⟨_, _, rfl, Ai rfl⟩) rfl (by intro u hu; simp at hu; rcases hu with rfl | rfl <;> rfl) (by rw [prs_length]; omega))) ?_
  rintro _ _ ⟨⟨A93, l93, c93, rfl⟩, rfl⟩
  refine Zf DZ ?_
  refine Zy (AB (cs' := #[_, _, _]) rfl rfl rfl PX rfl (Ra rfl) rfl) ?_
  refine Seq.nil <| Fin.inBlock <| Fin.then <| DC.region ?_
  refine Zp ?_
  refine Zm ?_
  refine Seq.nil ?_
  refine Fin.again ⟨i + 1, j8, bad8, .slice Av (rowsV rs).length cv, .slice A93 l93 c93, rs, cs ++ [(ea, eb)]⟩ (by dsimp only; omega) ⟨⟨by dsimp only; omega, by dsimp only; omega⟩, ⟨by dsimp only; omega, by simp; omega, hrw⟩, ?_⟩ ⟨rfl, rfl, rfl, rfl, rfl, trivial⟩ (.cons 3 rfl (.cons 3 rfl (.cons 3 rfl (.cons 3 rfl (.cons' 0 rfl (by dsimp only; rw [Cp]; rfl) (CI _ (BD _ _)))))))
  dsimp only
  rw [hm']; exact htl
 refine DC.exit <| Ad <| Ad <| Ag <| Fin.then <| DC.seq ?_
 have hik2 : i = kn := by simp at c19; omega
 subst hik2
 rw [Nat.sub_self, tailP] at htl
 rw [htl] at hcp
 dsimp only at hcp
 unfold rdC
 refine AC (cl := [.q, .q, .q, .q, .v, .q, .q, .q, .v, .q, .q, .q, .q, .q, .q, .q, .v, .g, .q, .g, .q]) (A := [0, 0, 2, 6, 14, 0, 32, 96, 224, 480, 1022, 2046, 4094, 4094, 12286, 28670, 61438, 131070, 262142, 262143, 1048575]) (order := [0, 1, 2, 3, 4, 5, 6, 7, 8, 9, 10, 11, 12, 13, 14, 15, 16, 17, 18, 19, 20]) ([blk g4 27 #[.bool pl, .slice Av (rowsV rs).length cv, .slice Au cs.length cu]]) mixed (by kernel_rfl) (fun w hw => hw.pick (.cons 1 rfl .nil)) ?_
 refine Flow.old rfl rfl rfl (Aq (vs := [_, _, _]) rfl rfl B7 BA rfl (Ai rfl)) ?_
 refine Ym ?_
 refine Yo rfl (AA rfl rfl) ?_
 refine Yf BB ?_
 refine Yl AJ ?_
 refine Ym ?_
 refine Yo rfl (AA rfl rfl) ?_
 refine Yf DY ?_
 refine Yl Ef ?_
 refine Yo rfl (CY rfl rfl Rv) ?_
 refine Yo rfl (AW rfl rfl rfl) ?_
 refine Ym ?_
 refine Flow.split 107 rfl (fun k30_11 => ?_) (fun k30_11 => ?_)
 ·refine Yk ?_
  iterate 5 refine Yk ?_
  refine Yo rfl (A7 rfl rfl rfl) ?_
  refine AD rfl rfl rfl rfl (Ah (cs' := #[_, _, _]) rfl rfl rfl BA rfl (Ra rfl) rfl) (fun w hw => hw.pick (.cons 1 rfl .nil)) ?_
  refine Yo rfl (AF rfl rfl) ?_
  refine Flow.end rfl ?_
  simp only [zq, zr]
  refine Fin.then <| DC.ret ?_
  refine AK (cs := #[_, _, _]) (.inl rfl) rfl rfl rfl B7 BA ?_
  have hae : a = bs.length := by have := of_decide_eq_true k30_11; omega
  rw [if_pos hae] at hcp
  exact ⟨rdC g (.slice A bs.length cap) a bad6 :: slc (.slice Av (rowsV rs).length cv) 44 1 (rowsV rs) :: slc (.slice Au cs.length cu) 43 2 (prs cs) :: rowsC 3 rs, fun w hw => hw.sub (.cons_cons _ (.cons _ (.cons _ (List.Sublist.refl _)))), pl, _, _, true, a, bad6, rs, cs, rfl, rfl, ⟨by omega, by omega, hrw⟩, fun _ => hcp, by simp⟩
 iterate 2 refine Ym ?_
 refine Yo rfl (AA rfl rfl) ?_
 refine Yf BB ?_
 refine Yl AJ ?_
 refine Flow.gen0 rfl rfl rfl rfl (AQ G8 rfl rfl rfl (Lc := [rdC g (.slice A bs.length cap) a bad6]) (F := (blk g4 27 #[.bool pl, .slice Av (rowsV rs).length cv, .slice Au cs.length cu] :: blk g2 27 #[.bool false, (.slice none 0 0), (.slice none 0 0)] :: slc (.slice Av (rowsV rs).length cv) 44 1 (rowsV rs) :: slc (.slice Au cs.length cu) 43 2 (prs cs) :: rowsC 3 rs)) (.refl _) (fun k hk => hk) (fun w hw => BC (hw.sub (L' := [rdC g (.slice A bs.length cap) a bad6]) (.cons_cons _ (Rh _))).self)) (fun v L' hC w hw => hw.pick (by obtain ⟨_, ⟨_, _, rfl⟩, rfl⟩ := hC; exact .cons 1 rfl .nil)) ?_
 rintro _ _ ⟨_, ⟨rfl, bad9, rfl⟩, rfl⟩
 simp only [zs]
 unfold rdC
 refine Yo rfl (Bc rfl rfl rfl) ?_
 refine AD rfl rfl rfl rfl (Ah (cs' := #[_, _, _]) rfl rfl rfl BA rfl (Ra rfl) rfl) (fun w hw => hw.pick (.cons 1 rfl .nil)) ?_
 refine Yo rfl (AF rfl rfl) ?_
 refine Flow.end rfl ?_
 simp only [zq, zr]
 refine Fin.then <| DC.ret ?_
 refine AK (cs := #[_, _, _]) (.inl rfl) rfl rfl rfl B7 BA ?_
 have hae : ¬ a = bs.length := by have := of_decide_eq_false k30_11; omega
 rw [if_neg hae] at hcp
 exact ⟨rdC g (.slice A bs.length cap) a bad9 :: slc (.slice Av (rowsV rs).length cv) 44 1 (rowsV rs) :: slc (.slice Au cs.length cu) 43 2 (prs cs) :: rowsC 3 rs, fun w hw => hw.sub (.cons_cons _ (.cons _ (.cons _ (List.Sublist.refl _)))), pl, _, _, false, a, bad9, rs, cs, rfl, rfl, ⟨by omega, by omega, hrw⟩, by simp, fun _ => hcp⟩
end Go.Fl

namespace Go.Fl
open Go Go.Proofs
structure CoI where
 i : Nat
 v : Value
theorem HY {N : Int} {es : List Pr} {va : Value} {w : World} (hg : PrV w va es) :
  Calls Tryz.prog 11 #[.agg #[.int .i64 N, va]] w (Ret w [] fun r L => ∃ A l c, r = .agg #[.int .i64 N, .slice A l c] ∧ L = [slc (.slice A l c) 43 2 (prs es)]) := by
 obtain ⟨A, cap, rfl, hr, hlc, hcm, hl⟩ := hg
 refine Ao (args := [_]) (L := []) Tryz.func11 rfl Tryz.ntmps11 rfl (Own.start _ _) ?_
 refine Zs ?_
 refine Zw (AX rfl rfl rfl) fun g1 => ?_
 refine Zw (Ay rfl FF rfl) fun g2 => ?_
 refine Zx <| Zs ?_
 refine Za ?_
 refine Zx <| DC.seq <| Zs ?_
 refine Za ?_
 refine Zx <| DC.block ?_
 refine DC.own (fun w hw => AU (t := 43) (m := 2) hw) ?_
 refine DC.loop (ι := CoI) (fun j => j.i ≤ es.length)
  (fun j => [(1, .pointer (some ⟨g1, 0, none⟩)), (2, .pointer (some ⟨g2, 0, none⟩)), (3, j.v), (4, .int .i64 j.i)])
  (fun j => slc j.v 43 2 (prs (es.take j.i)) :: [blk g2 24 #[.int .i64 0, .slice none 0 0], blk g1 24 #[.int .i64 N, .slice A es.length cap]]) (fun j => es.length - j.i) ⟨0, .slice none 0 0⟩ (Nat.zero_le _)
  ⟨rfl, rfl, rfl, rfl, trivial⟩ (.cons 0 rfl (Pick.all _)) ?_
 rintro ⟨i, v⟩ hi
 dsimp only at hi ⊢
 refine DC.seq <| Zs ?_
 refine Zm ?_
 refine Zf Br ?_
 refine Zl B9 ?_
 refine Zn Ru ?_
 refine Zc ?_
 refine Zx ?_
 refine Zd (fun c3 => ?_) fun c3 => ?_
 ·have hlt : i < es.length := by simpa using c3
  obtain ⟨e, he⟩ : ∃ e, es[i]? = some e := ⟨_, Q8 hlt⟩
  obtain ⟨ad, rfl, hU, hVe⟩ := hr.pair he
  refine DC.skip <| Fin.then <| DC.seq <| DC.block <| DC.region ?_
  refine Zm ?_
  refine Zf Br ?_
  refine Zl B9 ?_
  refine Zm ?_
  refine Zo (AT (ad' := ad.add (i * 2)) rfl rfl rfl Ru AP (by omega) (by omega) rfl) ?_
  refine Zu (Aq (vs := [_, _]) rfl rfl BW AP rfl (CC hU hVe (by simp))) ?_
  refine Zw (AM (cs := #[_, _]) rfl rfl Ru AP B6 rfl (by decide) (by decide) rfl rfl) fun g18 => ?_
  refine Seq.gen rfl rfl (AR rfl rfl rfl Ru AP KU B6 rfl (by decide) (by decide) (F := [blk g2 24 #[.int .i64 0, .slice none 0 0], blk g1 24 #[.int .i64 N, .slice (some ad) es.length cap]]) (fun w hw => hw.pick (.cons 1 rfl (.cons 1 rfl (.cons 1 rfl .nil)))) (.inl ⟨_, _, rfl, Ai rfl⟩) rfl (FJ [e]) (by simp; omega)) ?_
  rintro v19 _ rfl
  refine Za ?_
  refine Seq.nil <| Fin.inBlock <| Fin.then <| DC.region ?_
  refine Zm ?_
  refine Zp ?_
  refine Za ?_
  refine Seq.nil ?_
  refine Fin.again ⟨i + 1, v19⟩ (by dsimp only; omega) (by dsimp only; omega) ⟨rfl, rfl, rfl, rfl, trivial⟩ (.cons' 0 rfl (by dsimp only; rw [List.take_add_one, he, Cp]; rfl) (Pick.all _))
 refine DC.exit <| Ad <| Ad <| Ag <| Fin.then <| DC.seq ?_
 have hie : i = es.length := by simp at c3; omega
 subst hie
 rw [List.take_length]
 refine DC.shape (t := 43) (m := 2) (vs := prs es) 0 rfl ?_
 rintro ⟨Av, lv, cv, rfl⟩
 refine DC.region ?_
 refine Zf Cs ?_
 refine Zl AJ ?_
 refine Zm ?_
 refine Zo (As (cs := #[_, _]) rfl rfl E1 rfl rfl) ?_
 refine Zy (Ah (cs' := #[_, _]) rfl rfl rfl Bd rfl (Ra rfl) rfl) ?_
 refine Zx <| DC.ret ?_
 refine BT (cs := #[_, _]) (.inl rfl) rfl rfl Bs Bd ?_
 exact ⟨[slc (.slice Av lv cv) 43 2 (prs es)], fun w hw => hw.pick (.cons 0 rfl .nil), _, _, _, rfl, rfl⟩
end Go.Fl

namespace Go.Fl
open Go
/-- A block of cells, whatever of it is marked. -/
def fro (g t : Nat) (cs : Array Value) : Chunk :=
 ⟨[g], fun w => ∃ fz, w.heap[g]? = some (.cells cs t fz), fun w w' h ⟨fz, hh⟩ => ⟨fz, (h g (Ri ..)).trans hh⟩⟩
section
variable {P : Program} {w0 w : World} {K : List Nat} {n : Nat} {ds : List Deferred} {E : Env} {L F : List Chunk} {o : Oper} {x y z : Operand} {v u : Value}
theorem Jz {g i k : Nat} {cs : Array Value} {t : Nat} (hg : w.heap[g]? = some (.cells cs t (0, 0))) :
  ∃ fz, (w.freeze ⟨g, i, none⟩ k).heap[g]? = some (.cells cs t fz) ∧ (∀ j, j ≠ g → (w.freeze ⟨g, i, none⟩ k).heap[j]? = w.heap[j]?) ∧ (w.freeze ⟨g, i, none⟩ k).heap.size = w.heap.size ∧
   (w.freeze ⟨g, i, none⟩ k).os = w.os ∧ (w.freeze ⟨g, i, none⟩ k).tape = w.tape ∧ (w.freeze ⟨g, i, none⟩ k).output = w.output ∧ (w.freeze ⟨g, i, none⟩ k).drawn = w.drawn := by
 unfold World.freeze
 split
 ·exact ⟨_, hg, fun _ _ => rfl, rfl, rfl, rfl, rfl, rfl⟩
 refine ⟨_, by simp [Array.getElem?_modify, hg]; rfl, fun j hj => ?_, by simp, rfl, rfl, rfl, rfl⟩
 simp [Array.getElem?_modify, Ne.symm hj]
theorem Pu {t e g len cap : Nat} {cs : Array Value} (ho : o.op = .convert t t x) (hx : ev n E x = some (.slice (some ⟨g, 0, none⟩) len cap)) (ht : P.underlying t = some (.slice e)) (he : P.underlying e = some (.int .u8))
  (hown : ∀ w, Own w0 K w L → Own w0 K w (blk g e cs :: F)) : Gen P w0 K n ds E L o (fun v M => v = .slice (some ⟨g, 0, none⟩) len cap ∧ M = fro g e cs :: F) := by
 intro a w ha hw
 have hO := hown w hw
 have hg : w.heap[g]? = some (.cells cs e (0, 0)) := hO.holds (blk g e cs) (Ri ..)
 have hsh : w.shape? g = some (e, cs.size) := by unfold World.shape?; rw [hg]
 have hrun : (execOp a.eval o).run P w = .ok (.value (.slice (some ⟨g, 0, none⟩) len cap)) (w.freeze ⟨g, cs.size, none⟩ 1) := by
  simp [execOp, ho, ha.ev hx, convert, run_underlying ht, run_underlying he, markStringish, hsh]
 obtain ⟨fz, h1, h2, h3, h4, h5, h6, h7⟩ := Jz (i := cs.size) (k := 1) hg
 unfold RunsTo
 rw [hrun]
 refine ⟨_, ⟨rfl, rfl⟩, ?_⟩
 have h1' : Own w [g] (w.freeze ⟨g, cs.size, none⟩ 1) [fro g e cs] := by
  refine ⟨h4, h5, h6, ?_, by omega, fun k hk hn => h2 k (by simpa using hn), by simp [fro], fun q hq => ?_, fun q hq => ?_, fun c hc => ?_⟩
  ·rw [h7]; exact Lo.refl _
  ·simp [fro] at hq; subst hq; exact .inl (by simp)
  ·simp [fro] at hq; subst hq; rw [h3]; exact (Rp.1 hg).1
  simp at hc; subst hc; exact ⟨fz, h1⟩
 exact Own.frame (Lc := [blk g e cs]) hO h1' (fun k hk => by simp [blk] at hk ⊢; exact hk)
theorem Iw {g t cap : Nat} {bs : List UInt8} {sp : List Value} (hw : Own w0 K w L) (i : Nat) (hi : L[i]? = some (fro g t (byc bs ++ sp).toArray)) (h1 : bs.length ≤ cap) (h2 : cap ≤ 9223372036854775807) : ByV w (.slice (some ⟨g, 0, none⟩) bs.length cap) bs := by
 refine ⟨_, _, rfl, fun j u hj => ⟨_, rfl, ?_⟩, h1, h2⟩
 obtain ⟨fz, hg⟩ := hw.holds _ (Rc hi)
 rw [Az, cell_of_row w g j _ t fz hg]
 have hjl := (Q9.1 hj).1
 simpa [Rk hjl] using hj
end
end Go.Fl

namespace Go.Fl
open Go
def pk (L : List Chunk) : Chunk :=
 ⟨idsOf L, fun w => ∀ c, c ∈ L → c.holds w, fun w w' h hh c hc => c.loc w w' (fun g hg => h g (Fg.2 ⟨c, hc, hg⟩)) (hh c hc)⟩
section
variable {w0 w : World} {K : List Nat} {L F : List Chunk}
theorem H4 (h : Own w0 K w (L ++ F)) : Own w0 K w (pk L :: F) := by
 have e : idsOf (pk L :: F) = idsOf (L ++ F) := by simp [pk]
 refine ⟨h.os, h.tape, h.output, h.drawn, h.size, h.old, by rw [e]; exact h.nodup, fun g hg => h.fresh g (by rwa [e] at hg), fun g hg => h.lt g (by rwa [e] at hg), fun c hc => ?_⟩
 rcases List.mem_cons.1 hc with rfl | hc
 ·exact fun d hd => h.holds d (List.mem_append_left _ hd)
 exact h.holds c (List.mem_append_right _ hc)
theorem Nd (h : Own w0 K w (pk L :: F)) : Own w0 K w (L ++ F) := by
 have e : idsOf (pk L :: F) = idsOf (L ++ F) := by simp [pk]
 refine ⟨h.os, h.tape, h.output, h.drawn, h.size, h.old, by rw [← e]; exact h.nodup, fun g hg => h.fresh g (by rwa [← e] at hg), fun g hg => h.lt g (by rwa [← e] at hg), fun c hc => ?_⟩
 rcases List.mem_append.1 hc with hc | hc
 ·exact h.holds (pk L) (Ri ..) c hc
 exact h.holds c (Rm _ hc)
theorem Eq {M : List Chunk} (i : Nat) (hi : M[i]? = some (pk L)) (h : Own w0 K w M) : Own w0 K w (L ++ M.eraseIdx i) := Nd (h.perm (AE hi).symm)
end
end Go.Fl

namespace Go.Fl
open Go Go.Proofs
/-- A piece of memory that holds a certificate's lists. -/
def CertC (c : Chunk) (v u : Value) (ls : List (List Int)) (cs : List Pr) : Prop := ∀ (w0 : World) (K : List Nat) (w : World) (L : List Chunk) (i : Nat), Own w0 K w L → L[i]? = some c → LsV w v ls ∧ PrV w u cs
theorem Eo {pl : Bool} {ls : List (List Int)} {cs : List Pr} {v u : Value} {w : World} (hv : LsV w v ls) (hu : PrV w u cs) (hn : ls.length ≤ 1000000000) (hs : ∀ l, l ∈ ls → l.length ≤ 1000000000) :
  Calls Tryz.prog 12 #[.agg #[.bool pl, v, u]] w (Ret w [] fun r L => ∃ Av lv cv Au lu cu c, r = .agg #[.bool pl, .slice Av lv cv, .slice Au lu cu] ∧ L = [c] ∧ CertC c (.slice Av lv cv) (.slice Au lu cu) ls cs) := by
 have hcl : cs.length ≤ 8796093021952 := by obtain ⟨_, _, _, _, _, _, h⟩ := hu; exact h
 refine Calls.mono (G2 hv hu hn hs) ?_
 rintro e w' ⟨r, L', rfl, ⟨Av, lv, cv, Au, lu, cu, rs, rfl, hrs, rfl⟩, hO⟩
 refine ⟨_, [pk (slc (.slice Av lv cv) 44 1 (rowsV rs) :: slc (.slice Au lu cu) 43 2 (prs cs) :: rowsC 3 rs)], rfl, ⟨Av, lv, cv, Au, lu, cu, _, rfl, rfl, ?_⟩, H4 (by simpa using hO)⟩
 intro w0 K w L i hw hi
 have h1 := Eq i hi hw
 have hlen : rs.length = ls.length := by rw [← hrs]; simp
 refine ⟨?_, BZ h1 1 rfl hcl⟩
 have h2 := h1.sub (List.sublist_append_left _ _)
 have := Ly (F := [slc (.slice Au lu cu) 43 2 (prs cs)]) (by simpa using h2) (by omega) (fun p hp => by
  have := hs p.2 (by rw [← hrs]; exact List.mem_map_of_mem hp)
  omega)
 rw [hrs] at this; exact this
theorem En {N : Int} {es : List Pr} {va : Value} {w : World} (hg : PrV w va es) :
  Calls Tryz.prog 11 #[.agg #[.int .i64 N, va]] w (Ret w [] fun r L => ∃ A c, r = .agg #[.int .i64 N, .slice A es.length c] ∧ L = [slc (.slice A es.length c) 43 2 (prs es)]) := by
 have hl : es.length ≤ 8796093021952 := by obtain ⟨_, _, _, _, _, _, h⟩ := hg; exact h
 refine Calls.mono (HY hg) ?_
 rintro e w' ⟨r, L', rfl, ⟨A, l, c, rfl, rfl⟩, hO⟩
 obtain ⟨A', c', he, _⟩ := BZ hO 0 rfl hl
 cases he
 exact ⟨_, _, rfl, ⟨_, _, rfl, rfl⟩, hO⟩
open Classical
theorem MI {P : Program} {ops : Array Oper} {w0 : World} {K : List Nat} {n : Nat} {ds : List Deferred} {E : Env} {L : List Chunk} {Q : Exit → Act → World → Prop} {l : List Oper} {φ : Prop} (hf : ∀ w, Own w0 K w L → φ) (h : φ → Seq P ops w0 K n ds Q l E L) : Seq P ops w0 K n ds Q l E L := fun a w ha hw => h (hf w hw) a w ha hw
noncomputable def certA (bs : List UInt8) : Option (Bool × List (List Int) × List Pr) := if 33554432 < bs.length then none else certP bs
theorem J0 {vb : Value} {bs : List UInt8} {w : World} (hB : ByV w vb bs) :
  Calls Tryz.prog 22 #[vb] w (Ret w [] fun r M => ∃ pl Av lv cv Au lu cu x e ck ls cs, r = .tuple #[.agg #[.bool pl, .slice Av lv cv, .slice Au lu cu], .int .i64 x, .int .i64 e] ∧ M = [ck] ∧
   (e = 0 → certA bs = some (pl, ls, cs) ∧ CertC ck (.slice Av lv cv) (.slice Au lu cu) ls cs ∧ ls.length ≤ 4194304 ∧ ∀ l, l ∈ ls → l.length ≤ bs.length) ∧ (e ≠ 0 → certA bs = none)) := by
 obtain ⟨A, cap, hvb, hR, hb1, hb2⟩ := id hB
 subst hvb
 refine Ao (K := []) (args := [_]) (L := []) Tryz.func22 rfl Tryz.ntmps22 rfl (Own.start _ _) ?_
 refine Zs ?_
 refine Zw (Ay rfl J8 rfl) fun g2 => ?_
 iterate 2 refine Za ?_
 refine Zx <| DC.seq <| Zs ?_
 refine Zm ?_
 refine Zn Rv ?_
 refine Zo (Bx rfl rfl rfl) ?_
 refine Zx ?_
 refine Zd (fun c1 => ?_) fun c1 => ?_
 ·have hlen : 33554432 < bs.length := by have := of_decide_eq_true c1; omega
  refine Zs ?_
  refine Zo (As (cs := #[_, _, _]) rfl rfl MG rfl rfl) ?_
  refine Zy (Ah (cs' := #[_, _, _]) rfl rfl rfl BA rfl (Ra rfl) rfl) ?_
  iterate 2 refine Za ?_
  refine Zx <| DC.ret <| Aa ?_
  refine BP (cs := #[_, _, _]) (.inl rfl) rfl rfl rfl rfl B7 BA ?_
  exact ⟨[pk []], fun w hw => H4 (by simpa using hw.sub (Rh _)), false, _, _, _, _, _, _, 33554432, 10, _, [], [], rfl, rfl, by simp, fun _ => by rw [certA, if_pos hlen]⟩
 have hlen : ¬ 33554432 < bs.length := by have := of_decide_eq_false c1; omega
 refine DC.skip <| Fin.then <| Zs ?_
 refine Zm ?_
 refine Zo (As (cs := #[_, _, _]) rfl rfl bs91 rfl rfl) ?_
 refine Zw (AX rfl rfl rfl) fun g14 => ?_
 refine Za ?_
 refine Zx <| DC.seq ?_
 refine DC.own (M := [rdC g14 (.slice A bs.length cap) 0 (-1), blk g2 27 #[.bool false, .slice none 0 0, .slice none 0 0]]) (fun w hw => hw) ?_
 refine DC.region ?_
 refine Zm ?_
 refine Seq.gen rfl rfl (AQ en40 rfl rfl rfl (Lc := [rdC g14 (.slice A bs.length cap) 0 (-1)]) (F := [blk g2 27 #[.bool false, .slice none 0 0, .slice none 0 0]]) (.refl _) (fun k hk => hk) (fun w hw => JU (hw.sub (L' := [rdC g14 (.slice A bs.length cap) 0 (-1)]) (.cons_cons _ (Rh _))).self (hB.keep0 hw) (ByO.step (K := []) (L := [rdC g14 (.slice A bs.length cap) 0 (-1)]) hB (fun _ _ _ _ _ => by simp) (hw.sub (.cons_cons _ (Rh _)))) (by omega))) ?_
 rintro _ _ ⟨_, ⟨pl, v, u, ok, j, bad', rs, cs, rfl, rfl, ⟨hrl, hcl, hrw⟩, hy, hn⟩, rfl⟩
 refine Seq.own (M := [pk (slc v 44 1 (rowsV rs) :: slc u 43 2 (prs cs) :: rowsC 3 rs), blk g14 91 #[.slice A bs.length cap, .int .i64 (j : Nat), .int .i64 bad'], blk g2 27 #[.bool false, .slice none 0 0, .slice none 0 0]]) (fun w hw => H4 (hw.perm (List.perm_middle (l₁ := slc v 44 1 (rowsV rs) :: slc u 43 2 (prs cs) :: rowsC 3 rs)))) ?_
 refine MI (φ := (∃ A l c, v = .slice A l c) ∧ ∃ A l c, u = .slice A l c) (fun w hw => ?_) ?_
 ·have h1 := Eq 0 rfl hw
  obtain ⟨_, _, _, e, _⟩ := CO h1
  have h2 := h1.sub (Rg _ _)
  obtain ⟨_, _, _, e', _⟩ := CO h2
  exact ⟨⟨_, _, _, e⟩, ⟨_, _, _, e'⟩⟩
 rintro ⟨⟨Av, lv, cv, rfl⟩, ⟨Au, lu, cu, rfl⟩⟩
 have hcc : CertC (pk (slc (.slice Av lv cv) 44 1 (rowsV rs) :: slc (.slice Au lu cu) 43 2 (prs cs) :: rowsC 3 rs)) (.slice Av lv cv) (.slice Au lu cu) (rs.map Prod.snd) cs := by
  intro w0 K w L i hw hi
  have h1 := Eq i hi hw
  refine ⟨?_, BZ h1 1 rfl (by omega)⟩
  have h2 := h1.sub (List.sublist_append_left _ _)
  exact Ly (F := [slc (.slice Au lu cu) 43 2 (prs cs)]) (by simpa using h2) (by omega) (fun p hp => by have := hrw p hp; omega)
 refine Zm ?_
 iterate 2 refine Ze ?_
 refine Zw (Ay rfl J8 rfl) fun g6 => ?_
 refine Zy (Ah (cs' := #[_, _, _]) rfl rfl rfl BA rfl (Ra rfl) rfl) ?_
 refine Za ?_
 refine Zx <| DC.seq <| Zs ?_
 refine Zm ?_
 refine Zo (Bb rfl rfl) ?_
 refine Zx ?_
 refine Zd (fun c5 => ?_) fun c5 => ?_
 ·refine DC.seq ?_
  refine AC (cl := [.q, .q, .q, .q, .q, .g, .q, .q]) (A := [0, 0, 2, 6, 14, 1, 63, 127]) (order := [0, 1, 2, 3, 4, 5, 6, 7]) ([blk g14 91 #[.slice A bs.length cap, .int .i64 (j : Nat), .int .i64 bad']]) mixed (by kernel_rfl) (fun w hw => hw.pick (.cons 2 rfl .nil)) ?_
  refine Yo rfl (As (cs := #[_, _, _]) rfl rfl MG rfl rfl) ?_
  refine Ym ?_
  refine Yo rfl (AA rfl rfl) ?_
  refine Yf KE ?_
  refine Flow.old rfl rfl rfl (Ak rfl rfl AJ (Bt rfl)) ?_
  refine AD rfl rfl rfl rfl (Ah (cs' := #[_, _, _]) rfl rfl rfl BA rfl (Ra rfl) rfl) (fun w hw => hw.pick (.cons 2 rfl .nil)) ?_
  refine Yo rfl (AF rfl rfl) ?_
  refine Yo rfl (AF rfl rfl) ?_
  refine Flow.end rfl ?_
  simp only [zq, zr]
  refine Fin.then <| DC.ret <| Aa ?_
  refine BP (cs := #[_, _, _]) (.inl rfl) rfl rfl rfl rfl B7 BA ?_
  exact ⟨[pk []], fun w hw => H4 (by simpa using hw.sub (Rh _)), false, _, _, _, _, _, _, _, 170, _, [], [], rfl, rfl, by simp, fun _ => by rw [certA, if_neg hlen]; exact hn (by simpa using c5)⟩
 refine DC.skip <| Fin.then <| Zs ?_
 refine Zu (Aq (vs := [_, _, _]) rfl rfl B7 BA rfl (Ai rfl)) ?_
 refine Zy (Ah (cs' := #[_, _, _]) rfl rfl rfl BA rfl (Ra rfl) rfl) ?_
 iterate 2 refine Za ?_
 refine Zx <| DC.ret ?_
 refine BP (cs := #[_, _, _]) (.inl rfl) rfl rfl rfl rfl B7 BA ?_
 refine ⟨[_], fun w hw => hw.pick (.cons 1 rfl .nil), pl, _, _, _, _, _, _, 0, 0, _, rs.map Prod.snd, cs, rfl, rfl, fun _ => ⟨by rw [certA, if_neg hlen]; exact hy (by simpa using c5), hcc, by rw [List.length_map]; exact hrl, fun l hl => ?_⟩, by simp⟩
 obtain ⟨p, hp, rfl⟩ := List.mem_map.1 hl
 exact hrw p hp
end Go.Fl

namespace Go.Fl
open Go Go.Proofs
open Classical
theorem JI {u : Nat} (h : u < 10) : Lib.decDigits u = [UInt8.ofNat (48 + u)] := by
 rw [Lib.decDigits, dif_pos h]
theorem NS {u : Nat} (h : ¬ u < 10) : Lib.decDigits u = Lib.decDigits (u / 10) ++ [UInt8.ofNat (48 + u % 10)] := by
 rw [Lib.decDigits, dif_neg h]
theorem KH {k : Nat} (h : k < 10) : (UInt8.ofNat (48 + k)).toNat = 48 + k := UInt8.toNat_ofNat_of_lt (by show 48 + k < 256; omega)
/-- What decimal digits are. -/
theorem NR : ∀ u : Nat, (∀ c, c ∈ Lib.decDigits u → isDig c = true) ∧ decF (Lib.decDigits u) = u ∧ Lib.decDigits u ≠ [] ∧ ∀ c, (Lib.decDigits u)[0]? = some c → 1 < (Lib.decDigits u).length → c.toNat ≠ 48 := by
 intro u
 induction u using Nat.strongRecOn with
 | _ u ih =>
  by_cases h : u < 10
  ·rw [JI h]
   have e := KH h
   refine ⟨fun c hc => ?_, ?_, by simp, fun c _ h1 => by simp at h1⟩
   ·simp at hc; subst hc; simp [isDig, e]; omega
   simp [decF, e]; omega
  obtain ⟨h1, h2, h3, h4⟩ := ih (u / 10) (by omega)
  rw [NS h]
  have e := KH (k := u % 10) (by omega)
  refine ⟨fun c hc => ?_, ?_, by simp, fun c hc _ => ?_⟩
  ·rcases List.mem_append.1 hc with hc | hc
   ·exact h1 c hc
   simp at hc; subst hc; simp [isDig, e]; omega
  ·rw [Fo, h2, e]; omega
  have hpos : 0 < (Lib.decDigits (u / 10)).length := List.length_pos_iff.2 h3
  rw [Rk hpos] at hc
  by_cases h5 : 1 < (Lib.decDigits (u / 10)).length
  ·exact h4 c hc h5
  by_cases h6 : u / 10 < 10
  ·rw [JI h6] at hc
   cases hc
   rw [KH h6]; omega
  exfalso
  rw [NS h6, List.length_append, List.length_singleton] at h5
  have := List.length_pos_iff.2 (ih (u / 10 / 10) (by omega)).2.2.1
  omega
theorem LM {u : Nat} (h : u ≤ 999999999) : (Lib.decDigits u).length ≤ 9 := Cv 8 u (by rw [show (10 : Nat) ^ (8 + 1) = 1000000000 by decide]; omega)
/-- A text that begins with a number. -/
theorem JH {l r : List UInt8} (h : ∀ c, c ∈ l → isDig c = true) (hr : ∀ c, r[0]? = some c → isDig c = false) : digs (l ++ r) = l.length := by
 induction l with
 | nil =>
  cases r with
  | nil => rfl
  | cons c s => simp [digs, hr c rfl]
 | cons a l ih =>
  rw [List.cons_append, digs, if_pos (h a (by simp)), ih fun c hc => h c (by simp [hc])]
  rfl
theorem EK {bs r : List UInt8} {i : Nat} {n : Int} (h0 : 0 ≤ n) (h9 : n ≤ 999999999) (hd : bs.drop i = Lib.itoa n ++ r) (hr : ∀ c, r[0]? = some c → isDig c = false) :
  numP bs i = some (n, i + (Lib.itoa n).length) ∧ bs.drop (i + (Lib.itoa n).length) = r := by
 obtain ⟨u, rfl⟩ : ∃ u : Nat, n = u := ⟨n.toNat, by omega⟩
 rw [Lib.itoa_nonneg] at hd ⊢
 obtain ⟨h1, h2, h3, h4⟩ := NR u
 have hl9 := LM (u := u) (by omega)
 have hk : digs (bs.drop i) = (Lib.decDigits u).length := by rw [hd, JH h1 hr]
 have hpos := List.length_pos_iff.2 h3
 refine ⟨?_, by rw [← List.drop_drop, hd, List.drop_left]⟩
 unfold numP
 rw [hk, if_neg, numAt]
 ·rw [show min (i + (Lib.decDigits u).length - i) 9 = (Lib.decDigits u).length by omega, hd, List.take_left, h2]
 rintro (h | h | ⟨h5, h6⟩)
 ·omega
 ·omega
 have e : (bs.drop i)[0]? = some 48 := by rw [List.getElem?_drop]; exact h6
 rw [hd, Rk hpos] at e
 exact h4 48 e h5 rfl
theorem CG {bs s : List UInt8} {i : Nat} {c : UInt8} (h : bs.drop i = c :: s) : bs[i]? = some c ∧ bs.drop (i + 1) = s := by
 constructor
 ·have : (bs.drop i)[0]? = some c := by rw [h]; rfl
  rw [List.getElem?_drop] at this; exact this
 rw [← List.drop_drop, h]; rfl
theorem Nw {n : Int} (h0 : 0 ≤ n) : 0 < (Lib.itoa n).length ∧ ∀ c, (Lib.itoa n)[0]? = some c → isDig c = true := by
 obtain ⟨u, rfl⟩ : ∃ u : Nat, n = u := ⟨n.toNat, by omega⟩
 rw [Lib.itoa_nonneg]
 obtain ⟨h1, _, h3, _⟩ := NR u
 exact ⟨List.length_pos_iff.2 h3, fun c hc => h1 c (Rc hc)⟩
theorem Dp (x y : Int) (l : List Int) : lineB (x :: y :: l) = Lib.itoa x ++ 32 :: lineB (y :: l) := by
 unfold lineB
 simp [Lib.join, List.intercalate, List.intersperse]
theorem CJ (x : Int) : lineB [x] = Lib.itoa x ++ [10] := by simp [lineB, Lib.join, List.intercalate]
theorem Hz : ∀ xs : List (List UInt8), (Lib.join xs [32]).length = (xs.map List.length).sum + (xs.length - 1)
 | [] => by simp [Lib.join]
 | [x] => by simp [Lib.join, List.intercalate]
 | x :: y :: r => by
  have ih := Hz (y :: r)
  have e : Lib.join (x :: y :: r) [32] = x ++ [32] ++ Lib.join (y :: r) [32] := by simp [Lib.join, List.intercalate, List.intersperse]
  rw [e, List.length_append, List.length_append, ih]
  simp; omega
theorem OE : isDig 32 = false := by decide
theorem Mk : isDig 10 = false := by decide
theorem Hv {bs r : List UInt8} : ∀ {l : List Int} {f i : Nat} {acc : List Int}, l ≠ [] → (∀ n, n ∈ l → 0 ≤ n ∧ n ≤ 999999999) → (∀ n, n ∈ acc ++ l → ∀ a, (acc ++ l)[0]? = some a → a ≤ n) → l.length ≤ f → bs.drop i = lineB l ++ r →
  listGo bs f i acc = some (acc ++ l, i + (lineB l).length) ∧ bs.drop (i + (lineB l).length) = r
 | [], f, i, acc, h, _, _, _, _ => absurd rfl h
 | [x], f, i, acc, _, hx, ha, hf, hd => by
  obtain ⟨f, rfl⟩ : ∃ f', f = f' + 1 := ⟨f - 1, by simp at hf; omega⟩
  rw [CJ] at hd ⊢
  rw [List.append_assoc] at hd
  have hx0 := hx x (by simp)
  obtain ⟨h1, h2⟩ := EK hx0.1 hx0.2 hd (fun c hc => by simp at hc; subst hc; exact Mk)
  obtain ⟨h3, h4⟩ := CG h2
  have hg : ¬ (0 < acc.length ∧ x < acc.headD 0) := by
   rintro ⟨h5, h6⟩
   cases acc with
   | nil => simp at h5
   | cons a s =>
    have := ha x (by simp) a rfl
    simp at h6; omega
  rw [listGo, h1]
  dsimp only
  rw [if_neg hg, h3, if_neg (by decide), if_pos rfl]
  refine ⟨by simp [Nat.add_assoc], ?_⟩
  rw [List.length_append]
  exact h4
 | x :: y :: l, f, i, acc, _, hx, ha, hf, hd => by
  obtain ⟨f, rfl⟩ : ∃ f', f = f' + 1 := ⟨f - 1, by simp at hf; omega⟩
  rw [Dp] at hd ⊢
  rw [List.append_assoc] at hd
  have hx0 := hx x (by simp)
  obtain ⟨h1, h2⟩ := EK hx0.1 hx0.2 hd (fun c hc => by simp at hc; subst hc; exact OE)
  obtain ⟨h3, h4⟩ := CG h2
  have hg : ¬ (0 < acc.length ∧ x < acc.headD 0) := by
   rintro ⟨h5, h6⟩
   cases acc with
   | nil => simp at h5
   | cons a s =>
    have := ha x (by simp) a rfl
    simp at h6; omega
  rw [listGo, h1]
  dsimp only
  rw [if_neg hg, h3, if_pos rfl]
  obtain ⟨h5, h6⟩ := Hv (bs := bs) (r := r) (l := y :: l) (f := f) (i := i + (Lib.itoa x).length + 1) (acc := acc ++ [x]) (by simp) (fun n hn => hx n (Rm _ hn)) (by simpa using ha) (by simp at hf ⊢; omega) h4
  refine ⟨?_, ?_⟩
  ·rw [h5]
   simp [Nat.add_assoc, Nat.add_comm, Nat.add_left_comm]
  rw [← h6]
  congr 1
  simp; omega
theorem Np {bs r : List UInt8} {l : List Int} {i : Nat} (hl : ListOk l) (hd : bs.drop i = lineB l ++ r) : listP bs i = some (l, i + (lineB l).length) ∧ bs.drop (i + (lineB l).length) = r := by
 by_cases hn : l = []
 ·subst hn
  have e : lineB [] = [10] := by simp [lineB, Lib.join]
  rw [e] at hd ⊢
  obtain ⟨h1, h2⟩ := CG hd
  exact ⟨by rw [listP, if_pos h1]; rfl, h2⟩
 have hfit : ∀ n, n ∈ l → 0 ≤ n ∧ n ≤ 999999999 := fun n hn' => by
  obtain ⟨j, hj⟩ := Rf.1 hn'
  obtain ⟨a, ha⟩ : ∃ a, l[0]? = some a := ⟨_, Q8 (List.length_pos_iff.2 hn)⟩
  exact (hl j n a hj ha).1
 have hlen : l.length ≤ bs.length + 1 := by
  have h1 : (lineB l).length ≤ bs.length := by
   have := congrArg List.length hd
   rw [List.length_drop, List.length_append] at this; omega
  have h2 : l.length ≤ (lineB l).length := by
   unfold lineB
   rw [List.length_append, Hz]
   have : 0 < l.length := List.length_pos_iff.2 hn
   simp; omega
  omega
 have hne : ¬ bs[i]? = some 10 := by
  intro h
  have e : (bs.drop i)[0]? = some 10 := by rw [List.getElem?_drop]; exact h
  rw [hd] at e
  cases l with
  | nil => exact hn rfl
  | cons x s =>
   have hp := Nw (hfit x (by simp)).1
   have : (lineB (x :: s) ++ r)[0]? = (Lib.itoa x)[0]? := by
    cases s with
    | nil => rw [CJ, List.append_assoc, Rk hp.1]
    | cons y t => rw [Dp, List.append_assoc, Rk hp.1]
   rw [this] at e
   have := hp.2 10 e
   rw [Mk] at this; cases this
 rw [listP, if_neg hne]
 have := Hv (bs := bs) (r := r) (l := l) (f := bs.length + 1) (i := i) (acc := []) hn hfit (fun n hn' a ha => by
  rw [List.nil_append] at hn' ha
  obtain ⟨j, hj⟩ := Rf.1 hn'
  exact (hl j n a hj ha).2) hlen hd
 simpa using this
end Go.Fl

namespace Go.Fl
open Go Go.Proofs
open Classical
theorem NQ {bs r : List UInt8} {i : Nat} {es : List Pr} {e : Pr} (h1 : Fits e.1 ∧ Fits e.2 ∧ e.1 < e.2) (hlast : ∀ d, es[es.length - 1]? = some d → Lex d e) (hd : bs.drop i = lineB [e.1, e.2] ++ r) :
  edgeP bs i es = some (e, i + (lineB [e.1, e.2]).length) ∧ bs.drop (i + (lineB [e.1, e.2]).length) = r := by
 obtain ⟨u, v⟩ := e
 dsimp only at h1 hd ⊢
 obtain ⟨⟨a1, a2⟩, ⟨b1, b2⟩, hlt⟩ := h1
 rw [Dp, CJ] at hd ⊢
 simp only [List.append_assoc, List.cons_append, List.nil_append] at hd
 obtain ⟨h1, h2⟩ := EK a1 a2 hd (fun c hc => by simp at hc; subst hc; exact OE)
 obtain ⟨h3, h4⟩ := CG h2
 obtain ⟨h5, h6⟩ := EK b1 b2 h4 (fun c hc => by simp at hc; subst hc; exact Mk)
 obtain ⟨h7, h8⟩ := CG h6
 have hg : ¬ ∃ d, es[es.length - 1]? = some d ∧ ¬ Lex d (u, v) := by
  rintro ⟨d, hd, hn⟩
  exact hn (hlast d hd)
 have hn : ¬ v ≤ u := by omega
 have hlen : (Lib.itoa u ++ 32 :: (Lib.itoa v ++ [10])).length = (Lib.itoa u).length + 1 + (Lib.itoa v).length + 1 := by simp; omega
 rw [hlen]
 refine ⟨?_, by rw [← h8]; congr 1; omega⟩
 unfold edgeP
 rw [h1]
 dsimp only
 rw [if_pos h3, h5]
 dsimp only
 rw [if_neg hn, if_neg hg, if_pos h7]
 congr 2
 omega
theorem IM {bs r : List UInt8} {cs : List Pr} : ∀ {ls : List (List Int)} {dn : List (List Int)} {i : Nat}, (∀ l, l ∈ ls → ListOk l) → bs.drop i = (ls.map lineB).flatten ++ r →
  tailP true bs ls.length i dn cs = some (dn ++ ls, cs, i + ((ls.map lineB).flatten).length) ∧ bs.drop (i + ((ls.map lineB).flatten).length) = r
 | [], dn, i, _, hd => by
  rw [List.length_nil, tailP]
  simp at hd ⊢
  exact hd
 | l :: ls, dn, i, hl, hd => by
  rw [List.map_cons, List.flatten_cons, List.append_assoc] at hd
  obtain ⟨h1, h2⟩ := Np (hl l (by simp)) hd
  obtain ⟨h3, h4⟩ := IM (ls := ls) (dn := dn ++ [l]) (fun x hx => hl x (by simp [hx])) h2
  rw [List.length_cons, tailP, if_pos rfl, h1]
  dsimp only
  rw [h3, List.map_cons, List.flatten_cons, List.length_append]
  refine ⟨by simp [Nat.add_assoc], by rw [← h4]; congr 1; omega⟩
theorem IN {bs r : List UInt8} {ls : List (List Int)} : ∀ {es dn : List Pr} {i : Nat}, EdgesOk (dn ++ es) → bs.drop i = (es.map fun e => lineB [e.1, e.2]).flatten ++ r →
  tailP false bs es.length i ls dn = some (ls, dn ++ es, i + ((es.map fun e => lineB [e.1, e.2]).flatten).length) ∧ bs.drop (i + ((es.map fun e => lineB [e.1, e.2]).flatten).length) = r
 | [], dn, i, _, hd => by
  rw [List.length_nil, tailP]
  simp at hd ⊢
  exact hd
 | e :: es, dn, i, hok, hd => by
  rw [List.map_cons, List.flatten_cons, List.append_assoc] at hd
  have he : (dn ++ e :: es)[dn.length]? = some e := by simp
  obtain ⟨h1, h2⟩ := NQ (es := dn) (hok.ok _ e he) (fun d hd' => by
   have hl := (Q9.1 hd').1
   refine hok.up (dn.length - 1) d e ?_ ?_
   ·rw [Rk hl]; exact hd'
   rw [show dn.length - 1 + 1 = dn.length by omega]; exact he) hd
  obtain ⟨h3, h4⟩ := IN (ls := ls) (es := es) (dn := dn ++ [e]) (by simpa using hok) h2
  rw [List.length_cons, tailP, if_neg (by simp), h1]
  dsimp only
  rw [h3, List.map_cons, List.flatten_cons, List.length_append]
  refine ⟨by simp [Nat.add_assoc], by rw [← h4]; congr 1; omega⟩
theorem Nl {pl : Bool} {bs fl : List UInt8} {c : UInt8} {k : Nat} {ls : List (List Int)} {cs : List Pr} (hbs : bs = c :: 32 :: (Lib.itoa (k : Int) ++ 10 :: fl)) (hk : k ≤ if pl then 1048576 else 4194304)
  (ht : ∀ i, bs.drop i = fl ++ [] → tailP pl bs k i [] [] = some (ls, cs, i + fl.length) ∧ bs.drop (i + fl.length) = []) : midP pl bs = some (pl, ls, cs) := by
 have d1 : bs.drop 1 = 32 :: (Lib.itoa (k : Int) ++ 10 :: fl) := by rw [hbs]; rfl
 have d2 : bs.drop 2 = Lib.itoa (k : Int) ++ 10 :: fl := by rw [hbs]; rfl
 have hk9 : (k : Int) ≤ 999999999 := by split at hk <;> omega
 obtain ⟨h1, h2⟩ := EK (by omega) hk9 d2 (fun c hc => by simp at hc; subst hc; exact Mk)
 obtain ⟨h3, h4⟩ := CG h2
 obtain ⟨h5, h6⟩ := ht _ (by rw [List.append_nil]; exact h4)
 have hlen : 2 + (Lib.itoa (k : Int)).length + 1 + fl.length = bs.length := by rw [hbs]; simp; omega
 have hlim : ¬ (if pl = true then (1048576 : Int) else 4194304) < k := by
  cases pl <;> simp at hk ⊢ <;> omega
 unfold midP
 rw [if_pos (CG d1).1, h1]
 dsimp only
 rw [if_neg hlim, if_pos h3, Rb, h5]
 dsimp only
 rw [if_pos hlen]
/-- What is written is read back. -/
theorem KR {pl : Bool} {ls : List (List Int)} {cs : List Pr} (h : TextOk pl ls cs) : certA (certB pl ls cs) = some (pl, ls, cs) := by
 obtain ⟨hf, hlen⟩ := h
 rw [certA, if_neg (by omega)]
 unfold HasForm at hf
 cases pl with
 | true =>
  rw [if_pos rfl] at hf
  obtain ⟨rfl, hk, hl⟩ := hf
  have hbs : certB true ls [] = 112 :: 32 :: (Lib.itoa (ls.length : Int) ++ 10 :: (ls.map lineB).flatten) := by
   simp [certB, textB, headB, CJ]
  rw [certP, if_pos (by rw [hbs]; rfl)]
  refine Nl hbs (by simpa using hk) fun i hi => ?_
  have := IM (cs := []) (dn := []) (fun l hm => by
   obtain ⟨j, hj⟩ := Rf.1 hm
   exact hl j l hj) hi
  simpa using this
 | false =>
  rw [if_neg (by simp)] at hf
  obtain ⟨rfl, hok⟩ := hf
  have hbs : certB false [] cs = 110 :: 32 :: (Lib.itoa (cs.length : Int) ++ 10 :: (cs.map fun e => lineB [e.1, e.2]).flatten) := by
   simp [certB, textB, headB, CJ]
  rw [certP, if_neg (by rw [hbs]; simp), if_pos (by rw [hbs]; rfl)]
  refine Nl hbs (by simpa using hok.few) fun i hi => ?_
  have := IN (ls := []) (dn := []) (by simpa using hok) hi
  simpa using this
end Go.Fl

namespace Go.Proofs
open Go.Shelf Go.RowKit Go.Lib Go.Sort
def Tryz.sortEdge_ren : Go.Shelf.Ren := ⟨fun | 6 => 74 | 15 => 108 | 14 => 107 | 28 => 144 | 29 => 145 | 20 => 136 | 21 => 137 | 22 => 138 | 23 => 139 | 24 => 140 | 25 => 141 | 26 => 142 | 27 => 143 | 46 => 166 | 47 => 167 | 48 => 168 | 49 => 169 | 50 => 170 | 57 => 184 | n => n, fun | 22 => 22 | 24 => 43 | 25 => 142 | 3 => 3 | 39 => 180 | 0 => 0 | 53 => 219 | 55 => 221 | 4 => 4 | 46 => 213 | 45 => 212 | 50 => 195 | 5 => 5 | 9 => 9 | 66 => 239 | 70 => 243 | 76 => 254 | 77 => 112 | n => n, fun n => n⟩
theorem Cw : Go.Proofs.SlLaysF0.n6 Tryz.prog Tryz.sortEdge_ren := {
 mixed := by kernel_rfl
 f6 := ⟨"slices.SortFunc[[]tangram/api.Edge,tangram/api.Edge]", by decide, Tryz.func74.trans (congrArg some (by kernel_rfl))⟩
 f14 := ⟨"slices.pdqsortCmpFunc[tangram/api.Edge]", by decide, Tryz.func107.trans (congrArg some (by kernel_rfl))⟩
 f15 := Tryz.func108.trans (congrArg some (by kernel_rfl))
 f20 := ⟨"slices.insertionSortCmpFunc[tangram/api.Edge]", by decide, Tryz.func136.trans (congrArg some (by kernel_rfl))⟩
 f21 := ⟨"slices.heapSortCmpFunc[tangram/api.Edge]", by decide, Tryz.func137.trans (congrArg some (by kernel_rfl))⟩
 f22 := ⟨"slices.breakPatternsCmpFunc[tangram/api.Edge]", by decide, Tryz.func138.trans (congrArg some (by kernel_rfl))⟩
 f23 := ⟨"slices.choosePivotCmpFunc[tangram/api.Edge]", by decide, Tryz.func139.trans (congrArg some (by kernel_rfl))⟩
 f24 := ⟨"slices.reverseRangeCmpFunc[tangram/api.Edge]", by decide, Tryz.func140.trans (congrArg some (by kernel_rfl))⟩
 f25 := ⟨"slices.partialInsertionSortCmpFunc[tangram/api.Edge]", by decide, Tryz.func141.trans (congrArg some (by kernel_rfl))⟩
 f26 := ⟨"slices.partitionEqualCmpFunc[tangram/api.Edge]", by decide, Tryz.func142.trans (congrArg some (by kernel_rfl))⟩
 f27 := ⟨"slices.partitionCmpFunc[tangram/api.Edge]", by decide, Tryz.func143.trans (congrArg some (by kernel_rfl))⟩
 f28 := Tryz.func144.trans (congrArg some (by kernel_rfl))
 f29 := Tryz.func145.trans (congrArg some (by kernel_rfl))
 f46 := ⟨"slices.siftDownCmpFunc[tangram/api.Edge]", by decide, Tryz.func166.trans (congrArg some (by kernel_rfl))⟩
 f47 := Tryz.func167.trans (congrArg some (by kernel_rfl))
 f48 := Tryz.func168.trans (congrArg some (by kernel_rfl))
 f49 := ⟨"slices.medianAdjacentCmpFunc[tangram/api.Edge]", by decide, Tryz.func169.trans (congrArg some (by kernel_rfl))⟩
 f50 := ⟨"slices.medianCmpFunc[tangram/api.Edge]", by decide, Tryz.func170.trans (congrArg some (by kernel_rfl))⟩
 f57 := ⟨"slices.order2CmpFunc[tangram/api.Edge]", by decide, Tryz.func184.trans (congrArg some (by kernel_rfl))⟩
 t0 := Tryz.underlying0
 a0 := Tryz.isAgg0
 z0 := Tryz.sizeOf0
 v0 := Tryz.zeroValue0
 t3 := Tryz.underlying3
 a3 := Tryz.isAgg3
 z3 := Tryz.sizeOf3
 v3 := Tryz.zeroValue3
 t4 := Tryz.underlying4
 a4 := Tryz.isAgg4
 z4 := Tryz.sizeOf4
 v4 := Tryz.zeroValue4
 t5 := Tryz.underlying5
 a5 := Tryz.isAgg5
 z5 := Tryz.sizeOf5
 v5 := Tryz.zeroValue5
 t9 := Tryz.underlying9
 a9 := Tryz.isAgg9
 z9 := Tryz.sizeOf9
 v9 := Tryz.zeroValue9
 t22 := Ru
 a22 := Tryz.isAgg22
 z22 := Tryz.sizeOf22
 v22 := Tryz.zeroValue22
 t25 := Tryz.underlying142
 a25 := Tryz.isAgg142
 z25 := Tryz.sizeOf142
 v25 := Tryz.zeroValue142
 t39 := Tryz.underlying180
 a39 := Tryz.isAgg180
 z39 := Tryz.sizeOf180
 v39 := Tryz.zeroValue180
 t45 := Tryz.underlying212
 a45 := Tryz.isAgg212
 z45 := Tryz.sizeOf212
 v45 := Tryz.zeroValue212
 t46 := Tryz.underlying213
 a46 := Tryz.isAgg213
 z46 := Tryz.sizeOf213
 v46 := Tryz.zeroValue213
 t50 := Tryz.underlying195
 a50 := Tryz.isAgg195
 z50 := Tryz.sizeOf195
 v50 := Tryz.zeroValue195
 t53 := Tryz.underlying219
 a53 := Tryz.isAgg219
 z53 := Tryz.sizeOf219
 v53 := Tryz.zeroValue219
 t55 := Tryz.underlying221
 a55 := Tryz.isAgg221
 z55 := Tryz.sizeOf221
 v55 := Tryz.zeroValue221
 t66 := Tryz.underlying239
 a66 := Tryz.isAgg239
 z66 := Tryz.sizeOf239
 v66 := Tryz.zeroValue239
 t70 := Tryz.underlying243
 a70 := Tryz.isAgg243
 z70 := Tryz.sizeOf243
 v70 := Tryz.zeroValue243
 t76 := Tryz.underlying254
 a76 := Tryz.isAgg254
 z76 := Tryz.sizeOf254
 v76 := Tryz.zeroValue254
 t77 := Tryz.underlying112
 a77 := Tryz.isAgg112
 z77 := Tryz.sizeOf112
 v77 := Tryz.zeroValue112 }
def Tryz.cmpInt_ren : Go.Shelf.Ren := ⟨fun | 5 => 156 | 7 => 178 | n => n, fun | 22 => 3 | 3 => 3 | 4 => 4 | n => n, fun n => n⟩
theorem JY : Go.Proofs.SlLaysC2.n5 Tryz.prog Tryz.cmpInt_ren := {
 mixed := by kernel_rfl
 f5 := ⟨"cmp.Compare[int]", by decide, Tryz.func156.trans (congrArg some (by kernel_rfl))⟩
 f7 := ⟨"cmp.isNaN[int]", by decide, Tryz.func178.trans (congrArg some (by kernel_rfl))⟩
 t3 := Tryz.underlying3
 a3 := Tryz.isAgg3
 z3 := Tryz.sizeOf3
 v3 := Tryz.zeroValue3
 t4 := Tryz.underlying4
 a4 := Tryz.isAgg4
 z4 := Tryz.sizeOf4
 v4 := Tryz.zeroValue4
 t22 := Tryz.underlying3
 a22 := Tryz.isAgg3
 z22 := Tryz.sizeOf3
 v22 := Tryz.zeroValue3 }
/-- An edge's two cells. -/
def Tryz.encE (x : Int × Int) : List Value := [.int .i64 x.1, .int .i64 x.2]
/-- What cmp.Or says of two. -/
def Tryz.orI (a b : Int) : Int := if a = 0 then b else a
def Tryz.cmpE (x y : Int × Int) : Int := Tryz.orI (Lib.compareInt x.1 y.1) (Lib.compareInt x.2 y.2)
end Go.Proofs

namespace Go.Fl
open Go Go.Proofs
variable [Lo]
theorem GT (a b : Int) (w : World) : Calls Tryz.prog 156 #[.int .i64 a, .int .i64 b] w (Ret w [] fun r L => L = [] ∧ r = .int .i64 (Lib.compareInt a b)) := by
 refine (AnyG.cmp_Compare_int JY a b w).mono ?_
 rintro e w' ⟨rfl, rfl⟩
 exact ⟨_, _, rfl, ⟨rfl, rfl⟩, Own.start _ _⟩
theorem Ni {g t : Nat} {a b : Int} {w : World} (hg : w.heap[g]? = some (.cells #[.int .i64 a, .int .i64 b] t (0, 0))) :
  Calls Tryz.prog 155 #[.slice (some ⟨g, 0, none⟩) 2 2] w (Ret w [] fun r L => L = [] ∧ r = .int .i64 (Tryz.orI a b)) := by
 have h0 : w.cell? ⟨g, 0, none⟩ = some (.int .i64 a) := by rw [cell_of_row w g 0 _ t (0, 0) hg]; rfl
 have h1 : w.cell? ⟨g, 1, none⟩ = some (.int .i64 b) := by rw [cell_of_row w g 1 _ t (0, 0) hg]; rfl
 refine Ao (args := [_]) (L := []) Tryz.func155 rfl Tryz.ntmps155 rfl (Own.start _ _) ?_
 refine Zs ?_
 refine Za ?_
 refine Zx <| Zs ?_
 refine Za ?_
 refine Zx <| DC.seq <| Zs ?_
 refine Zm ?_
 refine Zn Rt ?_
 refine Zm ?_
 refine Zx <| DC.block ?_
 refine DC.loop (ι := Nat) (fun i => i ≤ 2 ∧ (0 < i → a = 0) ∧ (1 < i → b = 0)) (fun i => [(3, .int .i64 0), (6, .slice (some ⟨g, 0, none⟩) 2 2), (7, .int .i64 2), (8, .int .i64 i)]) (fun _ => []) (fun i => 2 - i) 0
  ⟨by omega, by omega, by omega⟩ ⟨rfl, rfl, rfl, rfl, trivial⟩ .nil ?_
 rintro i ⟨hi, ha, hb⟩
 refine Zs ?_
 refine Zc ?_
 refine Zx <| DC.seq ?_
 refine Zd (fun c3 => ?_) fun c3 => ?_
 ·have hlt : i < 2 := by simp at c3; omega
  obtain ⟨x, hx, hx0, hx1⟩ : ∃ x : Int, w.cell? ⟨g, i, none⟩ = some (.int .i64 x) ∧ (i = 0 → x = a) ∧ (i = 1 → x = b) := by
   rcases (show i = 0 ∨ i = 1 by omega) with rfl | rfl
   ·exact ⟨a, h0, fun _ => rfl, fun h => by omega⟩
   exact ⟨b, h1, fun h => by omega, fun _ => rfl⟩
  refine DC.skip <| Fin.then <| DC.seq <| DC.block <| Zs ?_
  refine Zo (Aw (ad' := ⟨g, i, none⟩) rfl rfl rfl Rt AN (by omega) (by omega) (Az _ _)) ?_
  refine Zu (Ak rfl rfl AJ (AY hx)) ?_
  refine Za ?_
  refine Zx <| Zs ?_
  iterate 2 refine Zm ?_
  refine Zo (BQ rfl rfl rfl) ?_
  refine Zx ?_
  refine Zd (fun c5 => ?_) fun c5 => ?_
  ·refine Zs ?_
   refine Zm ?_
   refine Za ?_
   refine Zx <| DC.ret <| Ae <| Aa <| Aa <| Ae <| Aa ?_
   refine Zh ?_
   refine ⟨rfl, ?_⟩
   have hne : x ≠ 0 := by simpa using c5
   unfold Tryz.orI
   rcases (show i = 0 ∨ i = 1 by omega) with h | h
   ·rw [hx0 h] at hne ⊢
    rw [if_neg hne]
   rw [hx1 h, if_pos (ha (by omega))]
  refine DC.skip <| Fin.inBlock <| Fin.then <| DC.region ?_
  refine Zp ?_
  refine Zm ?_
  refine Seq.nil ?_
  refine Fin.again (i + 1) (by omega) ⟨by omega, fun _ => ?_, fun h => ?_⟩ ⟨rfl, rfl, rfl, rfl, trivial⟩ .nil
  ·have hz : x = 0 := by simpa using c5
   by_cases h : i = 0
   ·rw [← hx0 h]; exact hz
   exact ha (by omega)
  have hz : x = 0 := by simpa using c5
  rw [← hx1 (by omega)]; exact hz
 refine DC.exit <| Ad <| Ad <| Ag <| Fin.then <| Zs ?_
 refine Zm ?_
 refine Za ?_
 refine Zx <| DC.ret ?_
 refine Zh ?_
 have hi2 : i = 2 := by simp at c3; omega
 unfold Tryz.orI
 rw [if_pos (ha (by omega)), hb (by omega)]
 exact ⟨rfl, rfl⟩
theorem Jb (x y : Int × Int) (w : World) :
  Calls Tryz.prog 154 #[.agg #[.int .i64 x.1, .int .i64 x.2], .agg #[.int .i64 y.1, .int .i64 y.2]] w (Ret w [] fun r L => r = .int .i64 (Tryz.cmpE x y)) := by
 refine Ao (args := [_, _]) (L := []) Tryz.func154 rfl Tryz.ntmps154 rfl (Own.start _ _) ?_
 refine Zs ?_
 refine Zw (AX rfl rfl rfl) fun g2 => ?_
 refine Zw (AX rfl rfl rfl) fun g3 => ?_
 refine Za ?_
 refine Zx <| DC.seq ?_
 refine AC (cl := [.q, .v, .q, .v, .r, .q, .v, .q, .v, .r, .n, .r, .q]) (A := [0, 1, 0, 4, 15, 0, 32, 0, 128, 511, 1023, 2047, 4095]) (order := [0, 1, 2, 3, 4, 5, 6, 7, 8, 9, 10, 11, 12]) [] mixed (by kernel_rfl) (fun w hw => hw.pick .nil) ?_
 refine Yf Bf ?_
 refine Yl AJ ?_
 refine Yf Bf ?_
 refine Yl AJ ?_
 refine Flow.rel0 rfl rfl rfl rfl (Am O4 rfl rfl rfl (fun w' hw => GT _ _ w')) ?_
 rintro _ rfl
 refine Yf Bv ?_
 refine Yl AJ ?_
 refine Yf Bv ?_
 refine Yl AJ ?_
 refine Flow.rel0 rfl rfl rfl rfl (Am O4 rfl rfl rfl (fun w' hw => GT _ _ w')) ?_
 rintro _ rfl
 refine Be rfl rfl rfl rfl (AM (cs := #[_, _]) rfl rfl Rt AN Cg rfl (by decide) (by decide) rfl rfl) fun g15 => ?_
 refine CW (V := [blk g15 3 #[.int .i64 (Lib.compareInt x.1 y.1), .int .i64 (Lib.compareInt x.2 y.2)], blk g3 43 #[.int .i64 y.1, .int .i64 y.2], blk g2 43 #[.int .i64 x.1, .int .i64 x.2]]) rfl rfl rfl rfl (by kernel_rfl) (Am QH rfl rfl rfl (fun w' hw => Ni (a := Lib.compareInt x.1 y.1) (b := Lib.compareInt x.2 y.2) (hw.holds _ (Ri ..)))) ?_
 rintro _ rfl
 refine Yo rfl (AF rfl rfl) ?_
 refine Flow.end rfl ?_
 simp only [zq, zr]
 refine Fin.then <| DC.ret ?_
 refine Zh ?_
 rfl
/-- A world that only grew. -/
theorem Jw {w w' : World} {L : List Chunk} (h : Own w [] w' L) (hd : w.drawn ≤ w'.drawn) : ∃ q os, w' = Sort.grow (w.drewN q) os := by
 refine ⟨w'.drawn - w.drawn, w'.heap.extract w.heap.size w'.heap.size, ?_⟩
 have hh : w'.heap = w.heap ++ w'.heap.extract w.heap.size w'.heap.size := by
  apply Array.ext_getElem?
  intro i
  by_cases hi : i < w.heap.size
  ·rw [Array.getElem?_append_left hi]; exact h.old i hi (by simp)
  rw [Array.getElem?_append_right (by omega), Array.getElem?_extract]
  have hs := h.size
  by_cases h2 : i < w'.heap.size
  ·rw [if_pos (by omega)]
   congr 1; omega
  rw [if_neg (by omega), Array.getElem?_eq_none (by omega)]
 have e : w.drawn + (w'.drawn - w.drawn) = w'.drawn := by omega
 have e1 := h.os
 have e2 := h.tape
 have e3 := h.output
 clear h hd
 cases w' with
 | mk h' t' d' o' u' =>
  cases w with
  | mk h0 t0 d0 o0 u0 =>
   simp only [Sort.grow, World.drewN] at *
   rw [World.mk.injEq]
   exact ⟨hh, e2, e.symm, e1, e3⟩
theorem Ja (hL : ¬ Lo.p) (x y : Int × Int) (w : World) :
  Calls Tryz.prog 154 #[.agg #[.int .i64 x.1, .int .i64 x.2], .agg #[.int .i64 y.1, .int .i64 y.2]] w fun e w' => e = .returned (.int .i64 (Tryz.cmpE x y)) ∧ ∃ q os, w' = Sort.grow (w.drewN q) os := by
 refine (Jb x y w).mono ?_
 rintro e w' ⟨v, L, rfl, rfl, hO⟩
 exact ⟨rfl, Jw hO (hO.drawn.resolve_left hL)⟩
end Go.Fl

namespace Go.Fl
open Go Go.Proofs
variable [Lo]
/-- Edges whose differences are numbers. -/
abbrev BPr := { p : Int × Int // (0 ≤ p.1 ∧ p.1 ≤ 1048576) ∧ 0 ≤ p.2 ∧ p.2 ≤ 1048576 }
instance : Inhabited BPr := ⟨⟨(0, 0), by decide⟩⟩
def encB (x : BPr) : List Value := [.int .i64 x.1.1, .int .i64 x.1.2]
def cmpB (x y : BPr) : Int := if x.1.1 = y.1.1 then x.1.2 - y.1.2 else x.1.1 - y.1.1
theorem GQ (x y : BPr) (w : World) :
  Calls Tryz.prog 75 #[.agg #[.int .i64 x.1.1, .int .i64 x.1.2], .agg #[.int .i64 y.1.1, .int .i64 y.1.2]] w (Ret w [] fun r L => r = .int .i64 (cmpB x y)) := by
 obtain ⟨⟨x1, x2⟩, ⟨hx1, hx2⟩, hx3, hx4⟩ := x
 obtain ⟨⟨y1, y2⟩, ⟨hy1, hy2⟩, hy3, hy4⟩ := y
 dsimp only at hx1 hx2 hx3 hx4 hy1 hy2 hy3 hy4 ⊢
 refine Ao (args := [_, _]) (L := []) Tryz.func75 rfl Tryz.ntmps75 rfl (Own.start _ _) ?_
 refine Zs ?_
 refine Zw (AX rfl rfl rfl) fun g2 => ?_
 refine Zw (AX rfl rfl rfl) fun g3 => ?_
 refine Za ?_
 refine Zx <| DC.seq <| Zs ?_
 refine Zf Bf ?_
 refine Zl AJ ?_
 refine Zf Bf ?_
 refine Zl AJ ?_
 refine Zo (BQ rfl rfl rfl) ?_
 refine Zx ?_
 refine Zd (fun c1 => ?_) fun c1 => ?_
 ·refine Zs ?_
  refine Zf Bf ?_
  refine Zl AJ ?_
  refine Zf Bf ?_
  refine Zl AJ ?_
  refine Zo (Ce rfl rfl rfl (by omega)) ?_
  refine Za ?_
  refine Zx <| DC.ret <| Aa ?_
  refine Zh ?_
  have h : ¬ x1 = y1 := by simpa using c1
  simp [cmpB, h]
 refine DC.skip <| Fin.then <| Zs ?_
 refine Zf Bv ?_
 refine Zl AJ ?_
 refine Zf Bv ?_
 refine Zl AJ ?_
 refine Zo (Ce rfl rfl rfl (by omega)) ?_
 refine Za ?_
 refine Zx <| DC.ret ?_
 refine Zh ?_
 have h : x1 = y1 := by simpa using c1
 simp [cmpB, h]
theorem GP (hL : ¬ Lo.p) (x y : BPr) (w : World) :
  Calls Tryz.prog 75 #[.agg #[.int .i64 x.1.1, .int .i64 x.1.2], .agg #[.int .i64 y.1.1, .int .i64 y.1.2]] w fun e w' => e = .returned (.int .i64 (cmpB x y)) ∧ ∃ q os, w' = Sort.grow (w.drewN q) os := by
 refine (GQ x y w).mono ?_
 rintro e w' ⟨v, L, rfl, rfl, hO⟩
 exact ⟨rfl, Jw hO (hO.drawn.resolve_left hL)⟩
end Go.Fl

namespace Go.Fl
open Go Go.Proofs Go.RowKit Go.Lib Go.Sort Go.Shelf
open Classical
theorem EW (x y : Int × Int) : ltOf Tryz.cmpE x y = decide (Lex x y) := by
 unfold ltOf Tryz.cmpE Tryz.orI Lib.compareInt Lex
 by_cases h1 : x.1 < y.1
 ·simp [h1]
 by_cases h2 : y.1 < x.1
 ·have : ¬ x.1 = y.1 := by omega
  simp [h1, h2, this]
 have : x.1 = y.1 := by omega
 by_cases h3 : x.2 < y.2
 ·simp [h1, h2, h3, this]
 by_cases h4 : y.2 < x.2
 ·simp [h1, h2, h3, h4, this]
 simp [h1, h2, h3, h4, this]
theorem NY : SWO (ltOf Tryz.cmpE) where
 irrefl x := by rw [EW]; simp [Lex]
 trans x y z h1 h2 := by
  rw [EW] at *
  have h1 := of_decide_eq_true h1
  have h2 := of_decide_eq_true h2
  refine decide_eq_true ?_
  unfold Lex at *; omega
 ntrans x y z h1 h2 := by
  rw [EW] at *
  have h1 := of_decide_eq_false h1
  have h2 := of_decide_eq_false h2
  refine decide_eq_false ?_
  unfold Lex at *; omega
theorem KM (x y : Int × Int) (h1 : ltOf Tryz.cmpE x y = false) (h2 : ltOf Tryz.cmpE y x = false) : x = y := by
 rw [EW] at *
 have h1 := of_decide_eq_false h1
 have h2 := of_decide_eq_false h2
 unfold Lex at *
 exact Prod.ext (by omega) (by omega)
theorem MB (blk off size : Nat) (w : World) : CmpLays Tryz.prog 154 #[] Tryz.encE 2 Tryz.cmpE blk off size w := by
 intro m os dk hdk x y
 generalize sortWorldK Tryz.encE 2 w blk off m dk os = W
 exact @Ja ⟨False⟩ id x y W
theorem Mv (es : List Pr) : flatK Tryz.encE 2 es.toArray = (prs es).toArray := by
 apply ext_get!
 ·simp
 intro t ht
 simp at ht
 rw [get_flatK _ _ _ _ (by simpa using ht)]
 obtain ⟨e, he⟩ : ∃ e, es[t / 2]? = some e := ⟨_, Q8 (by omega)⟩
 have h1 := FK he
 have hd : es.toArray[t / 2]! = e := by simp [he]
 rw [hd]
 rcases (show t % 2 = 0 ∨ t % 2 = 1 by omega) with h0 | h0
 ·have : t / 2 * 2 = t := by omega
  rw [h0]
  rw [this] at h1
  simp [Tryz.encE, h1.1]
 have : t / 2 * 2 + 1 = t := by omega
 rw [h0]
 rw [this] at h1
 simp [Tryz.encE, h1.2]
/-- Edges that rise stay as they are. -/
theorem Kd {v : Value} {es : List Pr} {w : World} (hO : Own w (idsOf [slc v 43 2 (prs es)]) w [slc v 43 2 (prs es)]) (hup : es.Pairwise Lex) (hl : es.length ≤ 1000000000) :
  Calls Tryz.prog 74 #[v, .func (.func 154) #[] #[]] w (Ret w (idsOf [slc v 43 2 (prs es)]) fun r M => M = [slc v 43 2 (prs es)]) := by
 rcases BR hO with ⟨rfl, h, _⟩ | ⟨g, len, cap, sp, rfl, h1, h2, h3, h4, hb⟩
 ·refine (AnyF.slices_SortFunc_none { Cw with } none 0 (.func (.func 154) #[] #[]) w).mono ?_
  rintro e w' ⟨rfl, rfl⟩
  exact ⟨_, _, rfl, rfl, hO⟩
 simp at h1
 obtain rfl : es.length = len := by omega
 have hg : w.heap[g]? = some (.cells (prs es ++ sp).toArray 43 (0, 0)) := hb.holds _ (Ri ..)
 have hlt : g < w.heap.size := (Rp.1 hg).1
 have hH : HoldsK Tryz.encE 2 w g 0 es.toArray := by
  unfold HoldsK
  rw [Mv]
  intro j hj
  have hj' : j < (prs es).length := by simpa using hj
  constructor
  ·rw [cell_of_row w g _ _ _ (0, 0) hg, List.getElem?_toArray, Nat.zero_add, Rk hj', Q8 hj']
   simp [Q8 hj']
  simp [World.frozen?, hg]
 have hcon := AnyQ.slices_SortFunc_total Cw 2 Tryz.isAgg43 Tryz.sizeOf43 Tryz.encE (fun _ => rfl) (fun x v hv => by simp [Tryz.encE] at hv; rcases hv with rfl | rfl <;> rfl) Tryz.cmpE NY 154 #[] g 0 cap es.toArray w
  (enters_of Tryz.func154 (by kernel_rfl) rfl) (MB g 0 es.toArray.size w) hH hlt (by simp; omega) KM
 refine hcon.mono ?_
 rintro e w' ⟨rfl, n, os, rfl⟩
 refine ⟨_, [slc (.slice (some ⟨g, 0, none⟩) es.length cap) 43 2 (prs es)], rfl, rfl, ?_⟩
 have hsorted : (es.toArray.toList.mergeSort fun x y => !(ltOf Tryz.cmpE) y x).toArray = es.toArray := by
  congr 1
  refine List.mergeSort_of_pairwise ?_
  refine hup.imp ?_
  intro a b hab
  rw [EW]
  have : decide (Lex b a) = false := decide_eq_false (by unfold Lex at *; omega)
  rw [this]; rfl
 rw [hsorted]
 have hself : sortWorldK Tryz.encE 2 w g 0 n es.toArray os = Sort.grow (w.drewN n) os := by
  unfold sortWorldK
  rw [putRowK_self _ _ _ _ _ _ (holdsK_ahead _ _ _ n _ _ _ hH)]
  rfl
 rw [hself]
 have := Own.frame (Lc := []) (F := [slc (.slice (some ⟨g, 0, none⟩) es.length cap) 43 2 (prs es)]) hO (Gp w n os) (fun k hk => by simp at hk)
 simpa using this
end Go.Fl

namespace Go.Fl
open Go Go.Proofs Go.RowKit Go.Lib Go.Sort Go.Shelf
open Classical
theorem DB (x y : BPr) : ltOf cmpB x y = decide (Lex x.1 y.1) := by
 unfold ltOf cmpB Lex
 by_cases h1 : x.1.1 = y.1.1
 ·rw [if_pos h1]
  congr 1
  apply propext
  omega
 rw [if_neg h1]
 congr 1
 apply propext
 omega
theorem NZ : SWO (ltOf cmpB) where
 irrefl x := by rw [DB]; simp [Lex]
 trans x y z h1 h2 := by
  rw [DB] at *
  have h1 := of_decide_eq_true h1
  have h2 := of_decide_eq_true h2
  refine decide_eq_true ?_
  unfold Lex at *; omega
 ntrans x y z h1 h2 := by
  rw [DB] at *
  have h1 := of_decide_eq_false h1
  have h2 := of_decide_eq_false h2
  refine decide_eq_false ?_
  unfold Lex at *; omega
theorem KN (x y : BPr) (h1 : ltOf cmpB x y = false) (h2 : ltOf cmpB y x = false) : x = y := by
 rw [DB] at *
 have h1 := of_decide_eq_false h1
 have h2 := of_decide_eq_false h2
 unfold Lex at *
 exact Subtype.ext (Prod.ext (by omega) (by omega))
theorem MC (blk off size : Nat) (w : World) : CmpLays Tryz.prog 75 #[] encB 2 cmpB blk off size w := by
 intro m os dk hdk x y
 generalize sortWorldK encB 2 w blk off m dk os = W
 exact @GP ⟨False⟩ id x y W
theorem NF (es : List BPr) : flatK encB 2 es.toArray = (prs (es.map (·.1))).toArray := by
 apply ext_get!
 ·simp
 intro t ht
 simp at ht
 rw [get_flatK _ _ _ _ (by simpa using ht)]
 obtain ⟨e, he⟩ : ∃ e, es[t / 2]? = some e := ⟨_, Q8 (by omega)⟩
 have h1 := FK (es := es.map (·.1)) (i := t / 2) (e := e.1) (by simp [he])
 have hd : es.toArray[t / 2]! = e := by simp [he]
 rw [hd]
 rcases (show t % 2 = 0 ∨ t % 2 = 1 by omega) with h0 | h0
 ·have : t / 2 * 2 = t := by omega
  rw [h0]
  rw [this] at h1
  simp [encB, h1.1]
 have : t / 2 * 2 + 1 = t := by omega
 rw [h0]
 rw [this] at h1
 simp [encB, h1.2]
theorem M7 {a b : List Value} {sp : List Value} (h : b.length = a.length) : Sort.putCells id 0 b.toArray (a ++ sp).toArray = (b ++ sp).toArray := by
 apply Array.ext_getElem?
 intro k
 unfold Sort.putCells
 rw [Array.getElem?_mapIdx]
 simp only [List.getElem?_toArray, List.size_toArray, Nat.zero_le, true_and, Nat.zero_add, Nat.sub_zero]
 by_cases hk : k < b.length
 ·rw [Rk (by omega), Rk hk]
  simp [hk, show k < a.length by omega]
 rw [Rl (by omega), Rl (by omega)]
 have hk' : ¬ k < a.length := by omega
 simp only [h, hk', if_false, Option.map_id_fun', id]
theorem IV {v : Value} {es : List BPr} {w : World} (hO : Own w (idsOf [slc v 43 2 (prs (es.map (·.1)))]) w [slc v 43 2 (prs (es.map (·.1)))]) (hl : es.length ≤ 1000000000) :
  Calls Tryz.prog 74 #[v, .func (.func 75) #[] #[]] w (Ret w (idsOf [slc v 43 2 (prs (es.map (·.1)))]) fun r M => ∃ fs : List BPr, M = [slc v 43 2 (prs (fs.map (·.1)))] ∧ fs.Perm es ∧ fs.Pairwise fun a b => ¬ Lex b.1 a.1) := by
 rcases BR hO with ⟨rfl, h, _⟩ | ⟨g, len, cap, sp, rfl, h1, h2, h3, h4, hb⟩
 ·refine (AnyF.slices_SortFunc_none { Cw with } none 0 (.func (.func 75) #[] #[]) w).mono ?_
  rintro e w' ⟨rfl, rfl⟩
  obtain rfl : es = [] := by cases es with
   | nil => rfl
   | cons a r => simp [prs] at h
  exact ⟨_, _, rfl, ⟨[], rfl, List.Perm.refl _, List.Pairwise.nil⟩, hO⟩
 simp at h1
 obtain rfl : es.length = len := by omega
 have hg : w.heap[g]? = some (.cells (prs (es.map (·.1)) ++ sp).toArray 43 (0, 0)) := hb.holds _ (Ri ..)
 have hlt : g < w.heap.size := (Rp.1 hg).1
 have hH : HoldsK encB 2 w g 0 es.toArray := by
  unfold HoldsK
  rw [NF]
  intro j hj
  have hj' : j < (prs (es.map (·.1))).length := by simpa using hj
  constructor
  ·rw [cell_of_row w g _ _ _ (0, 0) hg, List.getElem?_toArray, Nat.zero_add, Rk hj', Q8 hj']
   simp [Q8 hj']
  simp [World.frozen?, hg]
 have hcon := AnyQ.slices_SortFunc_total Cw 2 Tryz.isAgg43 Tryz.sizeOf43 encB (fun _ => rfl) (fun x v hv => by simp [encB] at hv; rcases hv with rfl | rfl <;> rfl) cmpB NZ 75 #[] g 0 cap es.toArray w
  (enters_of Tryz.func75 (by kernel_rfl) rfl) (MC g 0 es.toArray.size w) hH hlt (by simp; omega) KN
 refine hcon.mono ?_
 rintro e w' ⟨rfl, n, os, rfl⟩
 obtain ⟨fs, hfs⟩ : ∃ fs, fs = es.mergeSort fun x y => !(ltOf cmpB) y x := ⟨_, rfl⟩
 have hp : fs.Perm es := by rw [hfs]; exact List.mergeSort_perm _ _
 have hpl : fs.length = es.length := hp.length_eq
 have hsrt : fs.Pairwise fun a b => ¬ Lex b.1 a.1 := by
  have := List.pairwise_mergeSort (le := fun x y => !(ltOf cmpB) y x) (fun a b c h1 h2 => by
   simp only [Bool.not_eq_true', DB, decide_eq_false_iff_not] at *
   unfold Lex at *; omega) (fun a b => by
   simp only [Bool.or_eq_true, Bool.not_eq_true', DB, decide_eq_false_iff_not]
   unfold Lex; omega) es
  rw [← hfs] at this
  refine this.imp fun {a b} h => ?_
  simpa [DB] using h
 refine ⟨_, [slc (.slice (some ⟨g, 0, none⟩) es.length cap) 43 2 (prs (fs.map (·.1)))], rfl, ⟨fs, rfl, hp, hsrt⟩, ?_⟩
 have hm := Lr hg (Sort.putCells id 0 (flatK encB 2 fs.toArray)) n
 have hw' : Sort.mapBlock (Sort.ahead w n) g (Sort.putCells id 0 (flatK encB 2 fs.toArray)) = putRowK encB 2 (Sort.ahead w n) g 0 fs.toArray := rfl
 rw [hw', NF, M7 (by simp [hpl])] at hm
 have hgr := Own.frame (Lc := []) (F := [_]) hm (Gp _ 0 os) (fun k hk => by simp at hk)
 rw [← hfs]
 refine (B3 (m := 2) (vs := prs (fs.map (·.1))) (by simp [hpl]) (by decide) h2 h3 (by simp [hpl] at h4 ⊢; omega) ?_ hgr)
 simp [← hpl]
end Go.Fl

namespace Go.Fl
open Go
theorem EQ {α : Type} (b : α → Nat) : ∀ {l : List α} {j : Nat} {e : α}, (l.map b).Nodup → l[j]? = some e → l.filter (fun x => b x != b e) = l.eraseIdx j
 | [], j, e, _, h => by simp at h
 | x :: r, 0, e, hn, h => by
  simp at h; subst h
  simp only [List.map_cons, List.nodup_cons] at hn
  rw [List.filter_cons, if_neg (by simp), List.eraseIdx_cons_zero, List.filter_eq_self]
  intro y hy
  have : b y ≠ b x := fun e => hn.1 (by rw [← e]; exact List.mem_map_of_mem hy)
  simpa using this
 | x :: r, j + 1, e, hn, h => by
  simp only [List.getElem?_cons_succ] at h
  simp only [List.map_cons, List.nodup_cons] at hn
  have : b x ≠ b e := fun e' => hn.1 (by rw [e']; exact List.mem_map_of_mem (Rc h))
  rw [List.filter_cons, if_pos (by simpa using this), List.eraseIdx_cons_succ, EQ b hn.2 h]
section
variable {κ : Type} [DecidableEq κ]
/-- A map and an iterator over it; 'left': the entries that have not come yet; 'last': the one that came last. -/
def mit (enc : κ → Value) (gm gi : Nat) (m left : List (κ × Value)) (last : Option (κ × Value)) : Chunk :=
 ⟨[gm, gi], fun w => ∃ es clock seen, w.heap[gm]? = some (.map es clock) ∧ es.toList.map (fun e => (e.key, e.val)) = m.map (fun p => (enc p.1, p.2)) ∧ (es.toList.map (·.born)).Nodup ∧ (∀ e, e ∈ es.toList → e.born < clock) ∧
   w.heap[gi]? = some (.mapIter (some gm) clock seen clock) ∧ (leftOf es seen).toList.map (fun e => (e.key, e.val)) = left.map (fun p => (enc p.1, p.2)) ∧
   ∀ p, last = some p → ∃ (e : MapEntry) (s0 : Array Nat), e ∈ es.toList ∧ seen = s0.push e.born ∧ e.key = enc p.1 ∧ e.val = p.2,
  fun w w' h hh => by
   obtain ⟨es, c, s, h1, h2, h3, h4, h5, h6⟩ := hh
   exact ⟨es, c, s, (h gm (by simp)).trans h1, h2, h3, h4, (h gi (by simp)).trans h5, h6⟩⟩
variable {P : Program} {w0 w : World} {K : List Nat} {n : Nat} {ds : List Deferred} {E : Env} {L : List Chunk} {o : Oper} {x : Operand} {v : Value} {enc : κ → Value} {m left : List (κ × Value)} {gm gi : Nat} {v0 : Option (κ × Value)}
theorem LF {t kt et : TypeId} (i : Nat) (hi : L[i]? = some (mpc enc gm m)) (ho : o.op = .range t x) (hx : ev n E x = some (.map (some gm))) (ht : P.underlying t = some (.map kt et)) :
  Gen P w0 K n ds E L o (fun v M => ∃ gi, v = .pointer (some ⟨gi, 0, none⟩) ∧ M = L.set i (mit enc gm gi m m none)) := by
 intro a w ha hw
 obtain ⟨es, clock, h1, h2, h3, h4⟩ := Dm i hi hw
 have hlt : gm < w.heap.size := (Rp.1 h1).1
 have hr : (execOp a.eval o).run P w = .ok (.value (.pointer (some ⟨w.heap.size, 0, none⟩))) (w.alloc (.mapIter (some gm) clock #[] clock)) := by
  have hg : (getObj gm).run P w = .ok (.map es clock) w := by simp [getObj, Sem.run, h1]
  simp only [execOp, ho, ha.ev hx, Instr.range, Sem.run_bind, run_underlying ht, Result.andThen_ok, hg, Sem.run_pure]
  rfl
 refine RunsTo.value hr ⟨_, ⟨w.heap.size, rfl, rfl⟩, ?_⟩
 have hO : Own w [gm] (w.alloc (.mapIter (some gm) clock #[] clock)) [mit enc gm w.heap.size m m none] := by
  refine ⟨rfl, rfl, rfl, Lo.refl _, by simp, fun k hk hn => ?_, ?_, fun g hg => ?_, fun g hg => ?_, fun c hc => ?_⟩
  ·simp only [World.alloc, Array.getElem?_push]; rw [if_neg (by omega)]
  ·simp [mit]; exact fun e => by omega
  ·simp [mit] at hg; rcases hg with rfl | rfl
   ·exact .inl (by simp)
   exact .inr (Nat.le_refl _)
  ·simp [mit] at hg; rcases hg with rfl | rfl
   ·simp; omega
   simp
  simp at hc; subst hc
  refine ⟨es, clock, #[], ?_, h2, h3, h4, ?_, ?_, fun p hp => by cases hp⟩
  ·simp only [World.alloc, Array.getElem?_push]; rw [if_neg (by omega)]; exact h1
  ·simp only [World.alloc, Array.getElem?_push]; rw [if_pos trivial]
  have : leftOf es #[] = es := by simp [leftOf]
  rw [this]; exact h2
 exact (Own.frame (Lc := [mpc enc gm m]) (hw.perm (AE hi).symm) hO (fun k hk => by simp [mpc] at hk ⊢; exact hk)).perm (DN hi)
theorem NA (i : Nat) (hi : L[i]? = some (mit enc gm gi m left v0)) (ho : o.op = .next x false) (hx : ev n E x = some (.pointer (some ⟨gi, 0, none⟩))) :
  Gen P w0 K n ds E L o (fun v M => (v = .tuple #[.bool false] ∧ left = [] ∧ M = L) ∨ (∃ j p, left[j]? = some p ∧ v = .tuple #[.bool true, enc p.1, p.2] ∧ M = L.set i (mit enc gm gi m (left.eraseIdx j) (some p)))) := by
 intro a w ha hw
 obtain ⟨es, clock, seen, h1, h2, h3, h4, h5, h6, h7⟩ := Dm i hi hw
 rcases run_next_at (P := P) w o.type gi gm clock clock seen es clock h5 h1 h4 (Nat.le_refl _) with ⟨hz, hr⟩ | ⟨e, he, w1, hw1, hr⟩
 ·have hl : left = [] := by
   have := congrArg List.length h6
   simp only [List.length_map, Array.length_toList, hz] at this
   exact Ro this.symm
  refine RunsTo.value (v := .tuple #[.bool false]) (w' := w) (by simp only [execOp, ho, ha.ev hx, Sem.run_bind, hr, Result.andThen_ok, Sem.run_pure]) ⟨L, .inl ⟨rfl, hl, rfl⟩, hw⟩
 obtain ⟨j, hj⟩ := Rf.1 he
 have hpj : ∃ p, left[j]? = some p ∧ e.key = enc p.1 ∧ e.val = p.2 := by
  have h8 : ((leftOf es seen).toList.map fun e => (e.key, e.val))[j]? = some (e.key, e.val) := by rw [List.getElem?_map, hj]; rfl
  rw [h6, List.getElem?_map, Option.map_eq_some_iff] at h8
  obtain ⟨p, hp, hpe⟩ := h8
  exact ⟨p, hp, (congrArg Prod.fst hpe).symm, (congrArg Prod.snd hpe).symm⟩
 obtain ⟨p, hp, hk, hv⟩ := hpj
 have hees : e ∈ es.toList := by
  unfold leftOf at he
  rw [Array.toList_filter] at he
  exact (List.mem_filter.1 he).1
 refine RunsTo.value (v := .tuple #[.bool true, enc p.1, p.2]) (w' := ChangeMaps.setBlock w1 gi (.mapIter (some gm) clock (seen.push e.born) clock)) (by simp only [execOp, ho, ha.ev hx, Sem.run_bind, hr, Result.andThen_ok, Sem.run_pure, hk, hv]) ⟨_, .inr ⟨j, p, hp, rfl, rfl⟩, ?_⟩
 have hw1' : Own w0 K w1 L := by
  rcases hw1 with rfl | rfl
  ·exact hw
  exact hw.drew
 have hheap : w1.heap = w.heap := by rcases hw1 with rfl | rfl <;> rfl
 have hne : gm ≠ gi := by
  intro e
  rw [e, h5] at h1; cases h1
 have hlm : gm < w1.heap.size := by rw [hheap]; exact (Rp.1 h1).1
 have hli : gi < w1.heap.size := by rw [hheap]; exact (Rp.1 h5).1
 have hO : Own w1 [gm, gi] (ChangeMaps.setBlock w1 gi (.mapIter (some gm) clock (seen.push e.born) clock)) [mit enc gm gi m (left.eraseIdx j) (some p)] := by
  refine ⟨rfl, rfl, rfl, Lo.refl _, by simp [ChangeMaps.setBlock], fun k hk hn => ?_, by simp [mit, hne], fun g hg => .inl (by simpa [mit] using hg), fun g hg => ?_, fun c hc => ?_⟩
  ·simp at hn
   show (w1.heap.setIfInBounds gi _)[k]? = _
   rw [Array.getElem?_setIfInBounds_ne (by omega)]
  ·simp [mit] at hg
   rcases hg with rfl | rfl <;> simpa [ChangeMaps.setBlock]
  simp at hc; subst hc
  refine ⟨es, clock, seen.push e.born, ?_, h2, h3, h4, ?_, ?_, fun p' hp' => ?_⟩
  ·show (w1.heap.setIfInBounds gi _)[gm]? = _
   rw [Array.getElem?_setIfInBounds_ne (by omega), hheap]; exact h1
  ·show (w1.heap.setIfInBounds gi _)[gi]? = _
   simp [hli]
  ·have hnd : ((leftOf es seen).toList.map (·.born)).Nodup := by
    unfold leftOf
    rw [Array.toList_filter]
    exact h3.sublist ((List.filter_sublist).map _)
   have e1 : (leftOf es (seen.push e.born)).toList = (leftOf es seen).toList.filter (fun x => x.born != e.born) := by
    unfold leftOf
    rw [Array.toList_filter, Array.toList_filter, List.filter_filter]
    apply List.filter_congr
    intro y _
    by_cases hye : y.born = e.born
    ·simp [hye]
    have hye' : ¬ e.born = y.born := fun h => hye h.symm
    simp [hye, bne]
   rw [e1, EQ (·.born) hnd hj, ChangeMaps.map_eraseIdx, h6, ChangeMaps.map_eraseIdx]
  cases hp'
  exact ⟨e, seen, hees, rfl, hk, hv⟩
 exact (Own.frame (Lc := [mit enc gm gi m left v0]) (hw1'.perm (AE hi).symm) hO (fun k hk => by simpa [mit] using hk)).perm (DN hi)
theorem K9 {p : κ × Value} (i : Nat) (hi : L[i]? = some (mit enc gm gi m left (some p))) (ho : o.op = .entry x) (hx : ev n E x = some (.pointer (some ⟨gi, 0, none⟩))) : Val P w0 K n ds E L o (.tuple #[enc p.1, p.2]) := by
 intro a w ha hw
 obtain ⟨es, clock, seen, h1, h2, h3, h4, h5, h6, h7⟩ := Dm i hi hw
 obtain ⟨e, s0, he, rfl, hk, hv⟩ := h7 p rfl
 have := run_entry_at (P := P) w gi gm clock s0 es clock e h5 h1 he h3
 simp only [execOp, ho, ha.ev hx, Sem.run_bind, this, Result.andThen_ok, Sem.run_pure, hk, hv]
end
section
variable {P : Program} {n : Nat} {ds : List Deferred} {E : Env} {o : Oper} {x y : Operand}
theorem Pm {t t' : TypeId} {i q : Int} (ho : o.op = .binOp .quo t x y t') (hx : ev n E x = some (.int .i64 i)) (hy : ev n E y = some (.int .i64 2)) (hi : i = 2 * q) (hq : -9223372036854775808 ≤ q ∧ q ≤ 9223372036854775807) :
  Pur P n ds E o (.int .i64 q) := CD (r := 0) ho hx hy fun w => by
 have h1 : i.tdiv 2 = q := by rw [hi]; exact Int.mul_tdiv_cancel_left _ (by omega)
 simp [binOp, Op.intDiv, h1, Dd (i := q) ⟨by omega, by omega⟩]
end
end Go.Fl

namespace Go.Fl
open Go Go.Proofs
section
variable {κ : Type} [DecidableEq κ]
def delM (x : κ) (m : List (κ × Value)) : List (κ × Value) := match findM x m 0 with
 | some (j, _) => m.eraseIdx j
 | none => m
theorem GG {x : κ} {v : Value} : ∀ {m : List (κ × Value)} {i : Nat}, findM x m i = none → findM x (m ++ [(x, v)]) i = some (i + m.length, v)
 | [], i, h => by simp [findM]
 | (y, u) :: r, i, h => by
  unfold findM at h
  split at h
  ·cases h
  rename_i e
  rw [List.cons_append, findM, if_neg e, GG h]
  simp; omega
theorem OR {x : κ} {v : Value} {m : List (κ × Value)} (h : lkM m x = none) : delM x (putM x v m) = m := by
 have h1 : findM x m 0 = none := by simpa [lkM] using h
 rw [Ew h1, delM, GG h1]
 dsimp only
 rw [Nat.zero_add, List.eraseIdx_append_of_length_le (Nat.le_refl _)]
 simp
variable {P : Program} {w0 w : World} {K : List Nat} {n : Nat} {ds : List Deferred} {E : Env} {L : List Chunk} {o : Oper} {x y : Operand} {enc : κ → Value} {kt et : TypeId} {m : List (κ × Value)} {g : Nat}
theorem NB {t t' : TypeId} {k : κ} (i : Nat) (hi : L[i]? = some (mpc enc g m)) (hK : KeyK P kt enc) (ho : o.op = .call ⟨.builtin .delete, #[x, y], #[t, t']⟩) (hx : ev n E x = some (.map (some g))) (hy : ev n E y = some (enc k))
  (ht : P.underlying t = some (.map kt et)) : Gen P w0 K n ds E L o (fun v M => M = L.set i (mpc enc g (delM k m))) := by
 intro a w ha hw
 obtain ⟨es, clock, h1, h2, h3, h4⟩ := Dm i hi hw
 have hg : (getObj g).run P w = .ok (.map es clock) w := by simp [getObj, Sem.run, h1]
 have hf := hK.find k es.toList m w h2
 have hc := hK.chk es.isEmpty k w
 have hlen : es.toList.length = m.length := by have := congrArg List.length h2; simpa using this
 have hrun : ∀ ob : Obj, (setObj g ob).run P w = .ok () { w with heap := w.heap.setIfInBounds g ob } := fun ob => by simp [setObj, Sem.run, h1]
 have hfin : ∀ es' : Array MapEntry, (∀ v' w', (Builtin.delete_ #[t, t'] o.type #[.map (some g), enc k]).run P w = .ok v' w' → (execOp a.eval o).run P w = .ok (.value v') w') := fun _ v' w' hr => by
  simp [execOp, ho, resolve, ha.ev hx, ha.ev hy, invoke, builtin, hr]
 cases hfm : findM k m 0 with
 | none =>
  have hr : (Builtin.delete_ #[t, t'] o.type #[.map (some g), enc k]).run P w = .ok (.tuple #[]) { w with heap := w.heap.setIfInBounds g (.map es clock) } := by
   simp [Builtin.delete_, run_underlying ht, hg, hc, hf, hfm, hrun]
  refine RunsTo.value (hfin #[] _ _ hr) ⟨_, rfl, ?_⟩
  refine EJ (ob := .map es clock) rfl rfl hw hi fun w' hw' => ⟨_, _, hw', ?_, h3, h4⟩
  rw [delM, hfm]; exact h2
 | some p =>
  obtain ⟨j, v0⟩ := p
  have hr : (Builtin.delete_ #[t, t'] o.type #[.map (some g), enc k]).run P w = .ok (.tuple #[]) { w with heap := w.heap.setIfInBounds g (.map (es.eraseIdxIfInBounds j) clock) } := by
   simp [Builtin.delete_, run_underlying ht, hg, hc, hf, hfm, hrun]
  have hel : (es.eraseIdxIfInBounds j).toList = es.toList.eraseIdx j := by simp
  refine RunsTo.value (hfin #[] _ _ hr) ⟨_, rfl, ?_⟩
  refine EJ (ob := .map (es.eraseIdxIfInBounds j) clock) rfl rfl hw hi fun w' hw' => ⟨_, _, hw', ?_, ?_, fun e he => ?_⟩
  ·rw [hel, delM, hfm, ChangeMaps.map_eraseIdx, h2, ChangeMaps.map_eraseIdx]
  ·rw [hel, ChangeMaps.map_eraseIdx]
   exact h3.sublist (List.eraseIdx_sublist _ _)
  rw [hel] at he
  exact h4 e (List.mem_of_mem_eraseIdx he)
end
/-- An edge of these two ends. -/
def nrm (p : Pr) : Pr := (min p.1 p.2, max p.1 p.2)
structure MakR (n : Int) (ps es : List Pr) : Prop where
 lo : 0 ≤ n
 hi : n ≤ 1048576
 rng : ∀ p, p ∈ ps → 0 ≤ (nrm p).1 ∧ (nrm p).2 < n
 up : es.Pairwise Lex
 mem : ∀ x, x ∈ es ↔ ∃ p, p ∈ ps ∧ nrm p = x ∧ x.1 ≠ x.2
 few : es.length ≤ 4194304
theorem Mp {es : List Pr} (h : es.Pairwise Lex) : es.Nodup := h.imp fun {a b} hl e => by subst e; unfold Lex at hl; omega
theorem Fu : ∀ {a b : List Pr}, a.Pairwise Lex → b.Pairwise Lex → (∀ x, x ∈ a ↔ x ∈ b) → a = b
 | [], [], _, _, _ => rfl
 | [], y :: s, _, _, h => by have := (h y).2 (by simp); simp at this
 | x :: r, [], _, _, h => by have := (h x).1 (by simp); simp at this
 | x :: r, y :: s, h1, h2, h => by
  rw [List.pairwise_cons] at h1 h2
  have hxy : x = y := by
   rcases List.mem_cons.1 ((h x).1 (by simp)) with e | e
   ·exact e
   rcases List.mem_cons.1 ((h y).2 (by simp)) with e' | e'
   ·exact e'.symm
   have a1 := h2.1 x e
   have a2 := h1.1 y e'
   unfold Lex at a1 a2; omega
  subst hxy
  congr 1
  refine Fu h1.2 h2.2 fun z => ?_
  constructor
  ·intro hz
   rcases List.mem_cons.1 ((h z).1 (by simp [hz])) with e | e
   ·subst e; have := h1.1 z hz; unfold Lex at this; omega
   exact e
  intro hz
  rcases List.mem_cons.1 ((h z).2 (by simp [hz])) with e | e
  ·subst e; have := h2.1 z hz; unfold Lex at this; omega
  exact e
theorem MakR.uniq {n : Int} {ps es es' : List Pr} (h : MakR n ps es) (h' : MakR n ps es') : es = es' := Fu h.up h'.up fun x => (h.mem x).trans (h'.mem x).symm
theorem Nq {n : Int} (hn : n ≤ 1048576) : ∀ {es : List Pr}, (∀ e, e ∈ es → 0 ≤ e.1 ∧ e.1 ≤ e.2 ∧ e.2 < n) → ∃ bs : List BPr, bs.map (·.1) = es
 | [], _ => ⟨[], rfl⟩
 | e :: r, h => by
  obtain ⟨bs, hb⟩ := Nq hn (es := r) fun x hx => h x (by simp [hx])
  have h1 := h e (by simp)
  exact ⟨⟨e, by omega, by omega⟩ :: bs, by simp [hb]⟩
theorem IU {v : Value} {acc : List Pr} {w : World} (hb : ∃ bs : List BPr, bs.map (·.1) = acc) (hO : Own w (idsOf [slc v 43 2 (prs acc)]) w [slc v 43 2 (prs acc)]) (hl : acc.length ≤ 1000000000) :
  Calls Tryz.prog 74 #[v, .func (.func 75) #[] #[]] w (Ret w (idsOf [slc v 43 2 (prs acc)]) fun r M => ∃ fs : List Pr, M = [slc v 43 2 (prs fs)] ∧ fs.Perm acc ∧ fs.Pairwise fun a b => ¬ Lex b a) := by
 obtain ⟨bs, rfl⟩ := hb
 refine Calls.mono (IV hO (by simpa using hl)) ?_
 rintro e w' ⟨r, L', rfl, ⟨fs, rfl, h1, h2⟩, hO'⟩
 exact ⟨_, _, rfl, ⟨fs.map (·.1), rfl, h1.map _, by rw [List.pairwise_map]; exact h2⟩, hO'⟩
theorem Lj {α : Type} : ∀ {l : List α} {j : Nat} {x : α}, l[j]? = some x → (x :: l.eraseIdx j).Perm l
 | [], j, x, h => by simp at h
 | a :: r, 0, x, h => by simp at h; subst h; exact List.Perm.refl _
 | a :: r, j + 1, x, h => by
  have ih := Lj (l := r) (j := j) (x := x) (by simpa using h)
  exact (List.Perm.swap _ _ _).trans (ih.cons a)
end Go.Fl

namespace Go.Fl
open Go Go.Proofs
open Classical
def linesT (qs : List Pr) : List UInt8 := (qs.map fun e => lineB [e.1, e.2]).flatten
/-- A graph's text. -/
def gtext (N : Int) (es : List Pr) : List UInt8 := linesT ((N, (es.length : Int)) :: es)
def LinesR : RdS → List Pr → RdS → Prop
 | s, [], s' => s = s'
 | s, q :: qs, s' => ∃ s1, (∀ t u : Tk, t.nu = q.1 → u.nu = q.2 → lineF s [t, u] = .ok s1) ∧ LinesR s1 qs s'
theorem Hg {bs r : List UInt8} {i : Nat} {n : Int} {acc : List Tk} (h0 : 0 ≤ n) (h9 : n ≤ 999999999) (hd : bs.drop i = Lib.itoa n ++ r) (hr : ∀ c, r[0]? = some c → isDig c = false) :
  ∃ t : Tk, t.kd = 1 ∧ t.nu = n ∧ scanF i (bs.drop i) acc = scanF (i + (Lib.itoa n).length) (bs.drop (i + (Lib.itoa n).length)) (acc ++ [t]) ∧ bs.drop (i + (Lib.itoa n).length) = r := by
 obtain ⟨u, rfl⟩ : ∃ u : Nat, n = u := ⟨n.toNat, by omega⟩
 rw [Lib.itoa_nonneg] at hd ⊢
 obtain ⟨h1, h2, h3, h4⟩ := NR u
 have hl9 := LM (u := u) (by omega)
 have hk : digs (bs.drop i) = (Lib.decDigits u).length := by rw [hd, JH h1 hr]
 have hpos := List.length_pos_iff.2 h3
 obtain ⟨c, hc⟩ : ∃ c, (Lib.decDigits u)[0]? = some c := ⟨_, Q8 hpos⟩
 have hbc : bs[i]? = some c := by
  have e : (bs.drop i)[0]? = some c := by rw [hd, Rk hpos]; exact hc
  rw [List.getElem?_drop] at e; exact e
 have hs := E7 (acc := acc) hbc (h1 c (Rc hc)) hk hl9 (fun h => h4 c hc h.1 h.2)
 refine ⟨_, ?_, ?_, hs, by rw [← List.drop_drop, hd, List.drop_left]⟩
 ·rfl
 dsimp only
 rw [hd, List.take_left, h2]
theorem Ke {bs r : List UInt8} {i : Nat} {u v : Int} {acc : List Tk} (hu : 0 ≤ u ∧ u ≤ 999999999) (hv : 0 ≤ v ∧ v ≤ 999999999) (hd : bs.drop i = lineB [u, v] ++ r) :
  ∃ t1 t2 t3 : Tk, (t1.kd = 1 ∧ t1.nu = u) ∧ (t2.kd = 1 ∧ t2.nu = v) ∧ t3.kd = 2 ∧ scanF i (bs.drop i) acc = scanF (i + (lineB [u, v]).length) (bs.drop (i + (lineB [u, v]).length)) (acc ++ [t1, t2, t3]) ∧ bs.drop (i + (lineB [u, v]).length) = r := by
 rw [Dp, CJ] at hd ⊢
 simp only [List.append_assoc, List.cons_append, List.nil_append] at hd
 obtain ⟨t1, a1, a2, a3, a4⟩ := Hg (acc := acc) hu.1 hu.2 hd (fun c hc => by simp at hc; subst hc; exact OE)
 obtain ⟨b1, b2⟩ := CG a4
 have b3 := D6 (acc := acc ++ [t1]) b1 OE (by decide) (by decide)
 obtain ⟨t2, c1, c2, c3, c4⟩ := Hg (acc := acc ++ [t1]) hv.1 hv.2 b2 (fun c hc => by simp at hc; subst hc; exact Mk)
 obtain ⟨d1, d2⟩ := CG c4
 have d3 := Ge (acc := acc ++ [t1] ++ [t2]) d1 Mk (by decide)
 have hlen : i + (Lib.itoa u ++ 32 :: (Lib.itoa v ++ [10])).length = i + (Lib.itoa u).length + 1 + (Lib.itoa v).length + 1 := by simp; omega
 rw [hlen]
 rw [a3, b3, c3, d3]
 exact ⟨t1, t2, ⟨2, (i + (Lib.itoa u).length + 1 + (Lib.itoa v).length : Nat), (i + (Lib.itoa u).length + 1 + (Lib.itoa v).length + 1 : Nat), 0⟩, ⟨a1, a2⟩, ⟨c1, c2⟩, rfl, by simp only [List.append_assoc, List.cons_append, List.nil_append], d2⟩
theorem Jg {bs : List UInt8} : ∀ {qs : List Pr} {i : Nat} {acc : List Tk}, (∀ q, q ∈ qs → (0 ≤ q.1 ∧ q.1 ≤ 999999999) ∧ 0 ≤ q.2 ∧ q.2 ≤ 999999999) → bs.drop i = linesT qs →
  ∃ tk : List Tk, scanF i (bs.drop i) acc = .ok (acc ++ tk) ∧ ∀ s s', LinesR s qs s' → feedF s [] tk = .ok s'
 | [], i, acc, _, hd => by
  have e : linesT [] = [] := rfl
  rw [e] at hd
  rw [hd]
  refine ⟨[⟨3, i, i, 0⟩], by simp [scanF], fun s s' h => ?_⟩
  cases h
  simp [feedF]
 | q :: qs, i, acc, hq, hd => by
  have e : linesT (q :: qs) = lineB [q.1, q.2] ++ linesT qs := by simp [linesT]
  rw [e] at hd
  have hq0 := hq q (by simp)
  obtain ⟨t1, t2, t3, ⟨a1, a2⟩, ⟨b1, b2⟩, c1, hs, hd'⟩ := Ke (acc := acc) hq0.1 hq0.2 hd
  obtain ⟨tk, h1, h2⟩ := Jg (qs := qs) (acc := acc ++ [t1, t2, t3]) (fun x hx => hq x (by simp [hx])) hd'
  refine ⟨t1 :: t2 :: t3 :: tk, by rw [hs, h1]; simp, fun s s' h => ?_⟩
  obtain ⟨s1, hl, hr⟩ := h
  have hl' := hl t1 t2 a2 b2
  rw [Fm a1, Fm b1, GK (s' := s1) (by omega) (.inr ⟨by simp, by simpa using hl'⟩) (by omega)]
  exact h2 s1 s' hr
theorem Hw {N m : Int} : ∀ {es ps : List Pr}, (∀ e, e ∈ es → e.1 < N ∧ e.2 < N) → ((ps.length + es.length : Nat) : Int) = m → LinesR ⟨N, ps, true, m⟩ es ⟨N, ps ++ es, true, m⟩
 | [], ps, _, _ => by simp [LinesR]
 | e :: es, ps, h, hm => by
  have he := h e (by simp)
  refine ⟨⟨N, ps ++ [e], true, m⟩, fun t u ht hu => ?_, ?_⟩
  ·have hlt : ¬ m ≤ (ps.length : Int) := by simp at hm; omega
   simp [lineF, hlt, ht, hu, show ¬ N ≤ e.1 by omega, show ¬ N ≤ e.2 by omega]
  have := Hw (N := N) (m := m) (es := es) (ps := ps ++ [e]) (fun x hx => h x (by simp [hx])) (by rw [← hm]; simp; omega)
  simpa using this
/-- What is written is read back. -/
theorem L7 {N : Int} {es : List Pr} (hV : Vld N es) (hm : es.length ≤ 2097152) (hlen : (gtext N es).length ≤ 16777216) : rawF (gtext N es) = .ok N es := by
 have hlo := hV.lo
 have hhi := hV.hi
 have hes : ∀ e, e ∈ es → (0 ≤ e.1 ∧ e.1 < e.2) ∧ e.2 < N := fun e he => by
  obtain ⟨i, hi⟩ := Rf.1 he
  have := hV.ok i e hi
  exact ⟨⟨this.lo, this.lt⟩, this.hi⟩
 obtain ⟨tk, h1, h2⟩ := Jg (bs := gtext N es) (qs := (N, (es.length : Int)) :: es) (i := 0) (acc := []) (fun q hq => by
  rcases List.mem_cons.1 hq with rfl | hq
  ·dsimp only; omega
  have := hes q hq; omega) rfl
 rw [List.drop_zero, List.nil_append] at h1
 have h3 := h2 ⟨0, [], false, 0⟩ ⟨N, es, true, (es.length : Int)⟩ ⟨⟨N, [], true, (es.length : Int)⟩, fun t u ht hu => by
  dsimp only at ht hu
  simp [lineF, ht, hu, show ¬ (1048576 : Int) < N by omega, show ¬ (2097152 : Int) < (es.length : Int) by omega], by
  have := Hw (N := N) (m := (es.length : Int)) (es := es) (ps := []) (fun e he => by have := hes e he; omega) (by simp)
  simpa using this⟩
 unfold rawF
 rw [if_neg (by omega), scanA, if_neg (by omega), h1]
 dsimp only
 rw [h3, endF]
 simp
theorem Ml {N : Int} {es : List Pr} (hV : Vld N es) : MakR N es es := by
 have hes : ∀ e, e ∈ es → (0 ≤ e.1 ∧ e.1 < e.2) ∧ e.2 < N := fun e he => by
  obtain ⟨i, hi⟩ := Rf.1 he
  have := hV.ok i e hi
  exact ⟨⟨this.lo, this.lt⟩, this.hi⟩
 have hn : ∀ e, e ∈ es → nrm e = e := fun e he => by
  have := hes e he
  unfold nrm
  exact Prod.ext (by dsimp only; omega) (by dsimp only; omega)
 refine ⟨hV.lo, hV.hi, fun p hp => ?_, ?_, fun x => ?_, hV.few⟩
 ·rw [hn p hp]; have := hes p hp; omega
 ·rw [List.pairwise_iff_getElem]
  intro i j hi hj hij
  exact Gx hV hij (Q8 hi) (Q8 hj)
 constructor
 ·intro hx
  have := hes x hx
  exact ⟨x, hx, hn x hx, by omega⟩
 rintro ⟨p, hp, e, _⟩
 rw [← e, hn p hp]; exact hp
end Go.Fl

namespace Go.Fl
open Go Go.Proofs
open Classical
section
variable {P : Program} {ops : Array Oper} {w0 w w' : World} {K : List Nat} {n : Nat} {ds : List Deferred} {Q : Exit → Act → World → Prop} {r : List Oper} {d : Nat} {E : Env} {L F : List Chunk} {o : Oper} {x : Operand} {v : Value} {b : Nat} {bs s : List UInt8}
/-- A new piece lies behind all that is there. -/
theorem N9 (hd : o.dst = some d) (hw : want n E ops o = some true) {nv : NewV} {t : Nat} {cs : Array Value} (hx : New P n ds E o nv t cs)
  (h : ∀ g, (∀ k, k ∈ idsOf L → k < g) → Seq P ops w0 K n ds Q r ((d, nv.val g) :: E) (blk g t cs :: L)) : Seq P ops w0 K n ds Q (o :: r) E L := by
 intro a w ha hL
 unfold wpList
 rw [if_pos (Bl hw ha)]
 refine .inl ?_
 unfold Oper.wp
 rw [hx a w ha, Oper.upon_value, hd]
 exact h w.heap.size (fun k hk => hL.lt k hk) _ _ (ha.put (some d) _) (hL.alloc t cs)
/-- A call on a builder keeps what lies ahead of it. -/
theorem Ko (hw : Own w0 [] w (bldr b v bs :: F)) (hb : RowKit.Below b w w') (hF : ∀ k, k ∈ idsOf F → k < b) {v' : Value} (h : (bldr b v' s).holds w') : Own w0 [] w' (bldr b v' s :: F) := by
 have h1 := Hp hw hb h
 have h3 : ∀ k, k ∈ (bldr b v' s).ids → b ≤ k := by
  obtain ⟨p, _, _, q3, _⟩ := h
  intro k hk
  simp only [bldr, List.mem_cons] at hk
  rcases hk with rfl | hk
  ·omega
  have := (q3.lt k (by simpa [eq_comm] using hk)).1; omega
 have hwF := hw.sub (Rg ..)
 refine ⟨h1.os, h1.tape, h1.output, h1.drawn, h1.size, h1.old, ?_, fun g hg => ?_, fun g hg => ?_, fun c hc => ?_⟩
 ·rw [idsOf_cons, List.nodup_append]
  have := h1.nodup
  rw [idsOf_cons, idsOf_nil, List.append_nil] at this
  exact ⟨this, hwF.nodup, fun x hx y hy e => by have := h3 x hx; have := hF y hy; omega⟩
 ·rw [idsOf_cons, List.mem_append] at hg
  rcases hg with hg | hg
  ·exact h1.fresh g (by rw [idsOf_cons]; simp [hg])
  exact hwF.fresh g hg
 ·rw [idsOf_cons, List.mem_append] at hg
  rcases hg with hg | hg
  ·exact h1.lt g (by rw [idsOf_cons]; simp [hg])
  exact Nat.lt_of_lt_of_le (hwF.lt g hg) hb.size
 rcases List.mem_cons.1 hc with rfl | hc
 ·exact h
 exact c.loc w w' (fun g hg => hb.block g (hF g (List.mem_flatMap.2 ⟨c, hc, hg⟩))) (hwF.holds c hc)
theorem Nz {ts : Array Nat} {xs : Array Operand} (ho : o.op = .call ⟨.value x, xs, ts⟩) (hx : ev n E x = some (.func (.func 42) #[] #[]))
  (hxs : evs n E xs.toList = some [.pointer (some ⟨b, 0, none⟩), str s]) (hL : ∀ w, Own w0 [] w L → Own w0 [] w (bldr b v bs :: F)) (hF : ∀ k, k ∈ idsOf F → k < b) (hl : bs.length + s.length ≤ 140737488355328) :
  Gen Tryz.prog w0 [] n ds E L o (fun u M => ∃ v', M = bldr b v' (bs ++ s) :: F) := by
 intro a w ha hw
 have hw1 := hL w hw
 have hh := hw1.holds _ (Ri ..)
 unfold RunsTo
 rw [C6 Qn ho ha hx hxs]
 have hlt := hw1.lt b (by simp [bldr])
 refine Calls.mono (Tryz.Builder_WriteString b b _ ⟨s.toArray⟩ w (FZ hh) (by rw [Lib.byteCells_length]; simpa [ByteArray.size] using hl) (by omega)) ?_
 rintro e w' ⟨rfl, ⟨_, v', h1, h2, h3⟩, hb⟩
 have e1 : Lib.strCells ⟨s.toArray⟩ = Lib.byteCells s := rfl
 rw [e1, ← Lib.byteCells_append] at h2
 exact ⟨_, rfl, _, ⟨v', rfl⟩, Ko hw1 hb hF ⟨_, .inr rfl, h1, h2, h3⟩⟩
end
theorem Jh {es : List Pr} {i : Nat} {e q : Pr} (h : es[i]? = some e) : linesT (q :: es.take (i + 1)) = linesT (q :: es.take i) ++ lineB [e.1, e.2] := by
 rw [List.take_add_one, h]; simp [linesT]
theorem Gw : ∀ {qs : List Pr}, (∀ q, q ∈ qs → I64 q.1 ∧ I64 q.2) → (linesT qs).length ≤ 43 * qs.length
 | [], _ => by simp [linesT]
 | q :: qs, h => by
  have h1 := Cr (ns := [q.1, q.2]) (by have := h q (by simp); simp; exact this)
  have h2 := Gw (qs := qs) fun x hx => h x (by simp [hx])
  have e : linesT (q :: qs) = lineB [q.1, q.2] ++ linesT qs := by simp [linesT]
  rw [e, List.length_append, List.length_cons]
  simp only [List.length_cons, List.length_nil] at h1
  omega
structure TextI where
 i : Nat
 v : Value
theorem IR {N : Int} {es : List Pr} {va : Value} {w : World} (hg : PrV w va es) (hp : Pow w) :
  Calls Tryz.prog 23 #[.agg #[.int .i64 N, va]] w (Ret w [] fun r L => L = [] ∧ ∃ s e, r = .tuple #[str s, .int .i64 e] ∧
   ((e = 0 ∧ Vld N es ∧ es.length ≤ 2097152 ∧ (gtext N es).length ≤ 16777216 ∧ s = gtext N es) ∨ (e = 1 ∧ ¬ Vld N es) ∨ e = 141)) := by
 have hg0 := hg
 obtain ⟨A, cap, rfl, hr, hlc, hcm, hle⟩ := hg0
 refine Ao (K := []) (args := [_]) (L := []) Tryz.func23 rfl Tryz.ntmps23 rfl (Own.start _ _) ?_
 refine Zs ?_
 refine Zw (AX rfl rfl rfl) fun g1 => ?_
 iterate 2 refine Za ?_
 refine Zx <| DC.seq <| Zs ?_
 refine Zu (Aq (vs := [_, _]) rfl rfl Bs Bd rfl (Ai rfl)) ?_
 refine Seq.rel0 rfl rfl (Am JD rfl rfl rfl (fun w hw => B1 (hg.keep0 hw))) ?_
 rintro _ ⟨b, rfl, hb⟩
 refine Zo (Bb rfl rfl) ?_
 refine Zx ?_
 refine Zd (fun c1 => ?_) fun c1 => ?_
 ·refine Zs ?_
  iterate 2 refine Za ?_
  refine Zx <| DC.ret <| Aa ?_
  refine Fin.weak (E' := [(2, _), (3, _)]) ⟨rfl, rfl, trivial⟩ .nil ?_
  refine AI (.inl rfl) rfl rfl rfl ?_
  exact ⟨rfl, _, _, rfl, .inr (.inl ⟨rfl, by rw [← hb]; simpa using c1⟩)⟩
 refine DC.skip <| Fin.then <| DC.seq <| DC.seq ?_
 have hV : Vld N es := hb.1 (by simpa using c1)
 have hN0 := hV.lo
 have hN1 := hV.hi
 have hes : ∀ e, e ∈ es → I64 e.1 ∧ I64 e.2 := fun e he => by
  obtain ⟨i, hi⟩ := Rf.1 he
  have := hV.ok i e hi
  have h1 := this.lo
  have h2 := this.lt
  have h3 := this.hi
  unfold I64; omega
 refine DC.region ?_
 refine Zf Br ?_
 refine Zl B9 ?_
 refine Zn Ru ?_
 refine Zo (Bx rfl rfl rfl) ?_
 refine Zx ?_
 refine Zd (fun c3 => ?_) fun c3 => ?_
 ·refine Zs ?_
  iterate 2 refine Za ?_
  refine Zx <| DC.ret <| Aa ?_
  refine Fin.weak (E' := [(2, _), (3, _)]) ⟨rfl, rfl, trivial⟩ .nil ?_
  refine AI (.inl rfl) rfl rfl rfl ?_
  exact ⟨rfl, _, _, rfl, .inr (.inr rfl)⟩
 refine DC.skip <| Fin.then <| DC.seq ?_
 have hml : es.length ≤ 2097152 := by have h := c3; simp at h; omega
 refine DC.region ?_
 refine N9 rfl rfl (Ay rfl PJ rfl) fun g4 hg4 => ?_
 refine Zx <| Zs ?_
 refine Zf Cs ?_
 refine Zl AJ ?_
 refine Zf Br ?_
 refine Zl B9 ?_
 refine Zn Ru ?_
 refine Zw (AM (cs := #[_, _]) rfl rfl Rt AN Cg rfl (by decide) (by decide) rfl rfl) fun g19 => ?_
 refine Seq.rel0 rfl rfl (Am NL rfl rfl rfl (fun w hw => CQ (ns := [N, (es.length : Int)]) (B2 (g := g19) hw rfl rfl (by decide)) (by simp; unfold I64; omega) (hp.keep0 hw) (by simp))) ?_
 rintro _ rfl
 refine Seq.gen rfl rfl (Nz rfl rfl rfl (fun w hw => I6 (hw.pick (.cons 1 rfl (.cons 1 rfl .nil)))) (fun k hk => hg4 k hk) (by have := Cr (ns := [N, (es.length : Int)]) (by simp; unfold I64; omega); simp at this ⊢; omega)) ?_
 rintro _ _ ⟨v21, rfl⟩
 refine Zx <| DC.seq <| Zs ?_
 refine Zf Br ?_
 refine Zl B9 ?_
 refine Zn Ru ?_
 refine Zm ?_
 refine Zx <| DC.block ?_
 refine DC.loop (ι := TextI) (fun j => j.i ≤ es.length)
  (fun j => [(1, .pointer (some ⟨g1, 0, none⟩)), (4, .pointer (some ⟨g4, 0, none⟩)), (23, .slice A es.length cap), (24, .int .i64 es.length), (25, .int .i64 j.i)])
  (fun j => [bldr g4 j.v (linesT ((N, (es.length : Int)) :: es.take j.i))]) (fun j => es.length - j.i) ⟨0, v21⟩ (Nat.zero_le _) ⟨rfl, rfl, rfl, rfl, rfl, trivial⟩ (.cons' 0 rfl (by simp [linesT]) .nil) ?_
 rintro ⟨i, vi⟩ hi
 dsimp only at hi ⊢
 have hle43 : ∀ k, (linesT ((N, (es.length : Int)) :: es.take k)).length ≤ 43 * (es.length + 1) := fun k => by
  have := Gw (qs := (N, (es.length : Int)) :: es.take k) (fun q hq => by
   rcases List.mem_cons.1 hq with rfl | hq
   ·unfold I64; dsimp only; omega
   exact hes q (List.mem_of_mem_take hq))
  simp only [List.length_cons, List.length_take] at this
  omega
 refine Zs ?_
 refine Zc ?_
 refine Zx <| DC.seq ?_
 refine Zd (fun c8 => ?_) fun c8 => ?_
 ·have hlt : i < es.length := by simpa using c8
  obtain ⟨e, he⟩ : ∃ e, es[i]? = some e := ⟨_, Q8 hlt⟩
  obtain ⟨ad, rfl, hU, hVe⟩ := hr.pair he
  have hI := hes e (Rc he)
  have hlb := Cr (ns := [e.1, e.2]) (by simp; exact hI)
  have hl1 := hle43 i
  refine DC.skip <| Fin.then <| DC.seq <| DC.block <| Zs ?_
  refine Zo (AT rfl rfl rfl Ru AP (by omega) (by omega) (by first | exact Az _ _ | exact AS _ _ _ | rfl)) ?_
  refine Zu (Aq (vs := [_, _]) rfl rfl BW AP rfl (CC hU hVe (by simp))) ?_
  refine Zw (Ay rfl B6 rfl) fun g6 => ?_
  refine Zy (Ah (cs' := #[_, _]) rfl rfl rfl AP rfl (Ra rfl) rfl) ?_
  refine Zx <| DC.region ?_
  refine Zf Bf ?_
  refine Zl AJ ?_
  refine Zf Bv ?_
  refine Zl AJ ?_
  refine Zw (AM (cs := #[_, _]) rfl rfl Rt AN Cg rfl (by decide) (by decide) rfl rfl) fun g33 => ?_
  refine Seq.rel0 rfl rfl (Am NL rfl rfl rfl (fun w hw => CQ (ns := [e.1, e.2]) (B2 (g := g33) hw rfl rfl (by decide)) (by simp; exact hI) (hp.keep0 hw) (by simp))) ?_
  rintro _ rfl
  refine Seq.gen rfl rfl (Ie rfl rfl rfl (fun w hw => hw.pick (.cons 2 rfl .nil)) (by simp at hlb ⊢; omega)) ?_
  rintro _ _ ⟨v35, rfl⟩
  refine Seq.nil <| Fin.inBlock <| Fin.then <| DC.region ?_
  refine Zp ?_
  refine Zm ?_
  refine Seq.nil ?_
  refine Fin.again ⟨i + 1, v35⟩ (by dsimp only; omega) (by dsimp only; omega) ⟨rfl, rfl, rfl, rfl, rfl, trivial⟩ (.cons' 0 rfl (by dsimp only; rw [Jh he]) .nil)
 refine DC.exit <| Ad <| Ad <| Ag <| Fin.then <| DC.seq <| DC.seq ?_
 have hin : i = es.length := by simp at c8; omega
 subst hin
 rw [List.take_length]
 refine DC.region ?_
 refine Seq.rel0 rfl rfl (Am PC rfl rfl rfl (fun w hw => Ey (hw.holds _ (Ri ..)))) ?_
 rintro _ rfl
 refine Zo (Bx rfl rfl rfl) ?_
 refine Zx ?_
 refine Zd (fun c12 => ?_) fun c12 => ?_
 ·refine Zs ?_
  iterate 2 refine Za ?_
  refine Zx <| DC.ret <| Aa ?_
  refine Fin.weak (E' := [(2, _), (3, _)]) ⟨rfl, rfl, trivial⟩ .nil ?_
  refine AI (.inl rfl) rfl rfl rfl ?_
  exact ⟨rfl, _, _, rfl, .inr (.inr rfl)⟩
 refine DC.skip <| Fin.then <| Zs ?_
 refine Seq.gen rfl rfl (Jy rfl rfl rfl (fun w hw => hw)) ?_
 rintro _ _ ⟨rfl, rfl⟩
 iterate 2 refine Za ?_
 refine Zx <| DC.ret ?_
 refine AI (.inl rfl) rfl rfl rfl ?_
 exact ⟨rfl, _, _, rfl, .inl ⟨rfl, hV, hml, by have h := c12; simp at h; unfold gtext; omega, rfl⟩⟩
end Go.Fl

namespace Go.Fl
open Go Go.Proofs
structure MkI where
 i : Nat
 m : List (Pr × Value)
structure MkJ where
 left : List (Pr × Value)
 last : Option (Pr × Value)
 v : Value
 acc : List Pr
/-- The map's keys: the edges of the pairs ahead of i. -/
def KeysR (n : Int) (ps : List Pr) (i : Nat) (m : List (Pr × Value)) : Prop :=
 (m.map (·.1)).Nodup ∧ m.length ≤ i ∧ (∀ p, p ∈ ps.take i → 0 ≤ (nrm p).1 ∧ (nrm p).2 < n) ∧ ∀ x, x ∈ m.map (·.1) ↔ ∃ p, p ∈ ps.take i ∧ nrm p = x ∧ x.1 ≠ x.2
theorem Cq {ps : List Pr} {i : Nat} {p q : Pr} (hp : ps[i]? = some p) : q ∈ ps.take (i + 1) ↔ q ∈ ps.take i ∨ q = p := by
 rw [List.take_add_one, hp, List.mem_append]; simp
theorem Mq {n : Int} {ps : List Pr} {i : Nat} {m : List (Pr × Value)} {p : Pr} (h : KeysR n ps i m) (hp : ps[i]? = some p) (hr : 0 ≤ (nrm p).1 ∧ (nrm p).2 < n) (he : (nrm p).1 = (nrm p).2) : KeysR n ps (i + 1) m := by
 obtain ⟨h1, h2, h3, h4⟩ := h
 refine ⟨h1, by omega, fun q hq => ?_, fun x => ?_⟩
 ·rcases (Cq hp).1 hq with h | rfl
  ·exact h3 q h
  exact hr
 rw [h4 x]
 constructor
 ·rintro ⟨q, hq, e, hne⟩; exact ⟨q, (Cq hp).2 (.inl hq), e, hne⟩
 rintro ⟨q, hq, e, hne⟩
 rcases (Cq hp).1 hq with h | rfl
 ·exact ⟨q, h, e, hne⟩
 rw [← e] at hne; exact absurd he hne
theorem Nt {n : Int} {ps : List Pr} {i : Nat} {m : List (Pr × Value)} {p : Pr} {u : Value} (h : KeysR n ps i m) (hp : ps[i]? = some p) (hr : 0 ≤ (nrm p).1 ∧ (nrm p).2 < n) (he : (nrm p).1 ≠ (nrm p).2) : KeysR n ps (i + 1) (putM (nrm p) u m) := by
 obtain ⟨h1, h2, h3, h4⟩ := h
 have hk := D9 (nrm p) u m
 have hlen := I4 (nrm p) u m
 refine ⟨Gf h1, by rw [hlen]; split <;> omega, fun q hq => ?_, fun x => ?_⟩
 ·rcases (Cq hp).1 hq with h | rfl
  ·exact h3 q h
  exact hr
 have hmem : x ∈ (putM (nrm p) u m).map (·.1) ↔ x ∈ m.map (·.1) ∨ x = nrm p := by
  rw [hk]
  cases hl : lkM m (nrm p) with
  | none => simp
  | some v =>
   simp only [Option.isSome_some, if_true]
   constructor
   ·exact .inl
   rintro (h | rfl)
   ·exact h
   exact List.mem_map.2 ⟨_, FP hl, rfl⟩
 rw [hmem, h4 x]
 constructor
 ·rintro (⟨q, hq, e, hne⟩ | rfl)
  ·exact ⟨q, (Cq hp).2 (.inl hq), e, hne⟩
  exact ⟨p, (Cq hp).2 (.inr rfl), rfl, he⟩
 rintro ⟨q, hq, e, hne⟩
 rcases (Cq hp).1 hq with h | rfl
 ·exact .inl ⟨q, h, e, hne⟩
 exact .inr e.symm
theorem Nu {n : Int} {ps : List Pr} {i : Nat} {m : List (Pr × Value)} {p : Pr} (h : KeysR n ps i m) (he : (nrm p).1 = (nrm p).2) : lkM m (nrm p) = none := by
 cases hl : lkM m (nrm p) with
 | none => rfl
 | some v =>
  obtain ⟨q, _, e, hne⟩ := (h.2.2.2 (nrm p)).1 (List.mem_map.2 ⟨_, FP hl, rfl⟩)
  exact absurd he hne
theorem IW {n : Int} {ps : List Pr} {vp : Value} {w : World} (hg : PrV w vp ps) (hl : ps.length ≤ 33554433) :
  Calls Tryz.prog 39 #[.int .i64 n, vp] w (Ret w [] fun r M => ∃ N' A l c e es, r = .tuple #[.agg #[.int .i64 N', .slice A l c], .int .i64 e] ∧ M = [slc (.slice A l c) 43 2 (prs es)] ∧ (e = 0 → N' = n ∧ MakR n ps es) ∧ (e ≠ 0 → N' = 0 ∧ es = [] ∧ ¬ ∃ es, MakR n ps es)) := by
 obtain ⟨A, cap, rfl, hr, hlc, hcm, hle⟩ := hg
 refine Ao (K := []) (args := [_, _]) (L := []) Tryz.func39 rfl Tryz.ntmps39 rfl (Own.start _ _) ?_
 refine Zs ?_
 refine Zw (Ay rfl FF rfl) fun g4 => ?_
 refine Za ?_
 refine Zx <| DC.seq <| Zs ?_
 refine Zm ?_
 refine Zc ?_
 refine Zm ?_
 refine Seq.split 14 rfl (fun k1_2 => ?_) (fun k1_2 => ?_)
 ·refine Zk ?_
  refine Zk ?_
  refine Zt ?_
  refine Zx ?_
  refine AG rfl ?_
  refine Zs ?_
  refine Zo (As (cs := #[_, _]) rfl rfl E1 rfl rfl) ?_
  refine Zy (Ah (cs' := #[_, _]) rfl rfl rfl Bd rfl (Ra rfl) rfl) ?_
  refine Za ?_
  refine Zx <| DC.ret <| Aa ?_
  refine AK (cs := #[_, _]) (.inl rfl) rfl rfl rfl Bs Bd ?_
  refine ⟨[slc (.slice none 0 0) 43 2 []], fun w hw => AU (hw.sub (Rh _)), 0, none, 0, 0, 2, [], rfl, rfl, by simp, fun _ => ⟨rfl, rfl, ?_⟩⟩
  rintro ⟨es, h⟩
  have h1 := h.lo
  have h2 := h.hi
  first
  | (have := of_decide_eq_true k1_2; omega)
  | (have := of_decide_eq_true c1; omega)
 refine Zm ?_
 refine Zo (Bx rfl rfl rfl) ?_
 refine Zg ?_
 refine Zx ?_
 refine Zd (fun c1 => ?_) fun c1 => ?_
 ·refine Zs ?_
  refine Zo (As (cs := #[_, _]) rfl rfl E1 rfl rfl) ?_
  refine Zy (Ah (cs' := #[_, _]) rfl rfl rfl Bd rfl (Ra rfl) rfl) ?_
  refine Za ?_
  refine Zx <| DC.ret <| Aa ?_
  refine AK (cs := #[_, _]) (.inl rfl) rfl rfl rfl Bs Bd ?_
  refine ⟨[slc (.slice none 0 0) 43 2 []], fun w hw => AU (hw.sub (Rh _)), 0, none, 0, 0, 2, [], rfl, rfl, by simp, fun _ => ⟨rfl, rfl, ?_⟩⟩
  rintro ⟨es, h⟩
  have h1 := h.lo
  have h2 := h.hi
  first
  | (have := of_decide_eq_true k1_2; omega)
  | (have := of_decide_eq_true c1; omega)
 refine DC.skip <| Fin.then <| Zs ?_
 refine Seq.rel rfl rfl (CH (enc := encP) rfl) ?_
 rintro _ _ ⟨gm, rfl, rfl⟩
 refine Za ?_
 refine Zx <| DC.seq <| Zs ?_
 refine Zm ?_
 refine Zn Tryz.underlying37 ?_
 refine Zm ?_
 refine Zx <| DC.block ?_
 have hn0 : 0 ≤ n ∧ n ≤ 1048576 := by have h1 := of_decide_eq_false k1_2; have h2 := of_decide_eq_false c1; omega
 refine DC.loop (ι := MkI) (fun q => q.i ≤ ps.length ∧ KeysR n ps q.i q.m) (fun q => [(0, .int .i64 n), (4, .pointer (some ⟨g4, 0, none⟩)), (6, .map (some gm)), (20, .slice A ps.length cap), (21, .int .i64 ps.length), (22, .int .i64 (q.i : Nat))])
  (fun q => [mpc encP gm q.m, blk g4 24 #[.int .i64 0, (.slice none 0 0)]]) (fun q => ps.length - q.i) ⟨0, []⟩ ⟨Nat.zero_le _, by simp, Nat.le_refl _, by simp, by simp⟩ ⟨rfl, rfl, rfl, rfl, rfl, rfl, trivial⟩ (.cons 0 rfl (.cons 0 rfl .nil)) ?_
 rintro ⟨i, m⟩ ⟨hi, hK⟩
 dsimp only at hi hK ⊢
 refine Zs ?_
 refine Zc ?_
 refine Zx <| DC.seq ?_
 refine Zd (fun c5 => ?_) fun c5 => ?_
 ·have hlt : i < ps.length := by simpa using c5
  obtain ⟨p, hp⟩ : ∃ x, ps[i]? = some x := ⟨_, Q8 hlt⟩
  obtain ⟨ad, rfl, cx, cy⟩ := hr.pair hp
  refine DC.skip <| Fin.then <| DC.seq <| DC.block <| Zs ?_
  refine Zo (AT (ad' := ad.add (i * 2)) rfl rfl rfl Tryz.underlying37 IO (by omega) (by omega) rfl) ?_
  refine Zu (Aq (vs := [_, _]) rfl rfl PI IO rfl (CC cx cy (by simp))) ?_
  refine Zw (Ay rfl J7 rfl) fun g8 => ?_
  refine Zy (Ah (cs' := #[_, _]) rfl rfl rfl IO rfl (Ra rfl) rfl) ?_
  refine Zx <| Zs ?_
  refine Zo (C7 (ad' := ⟨g8, 0, none⟩) rfl rfl rfl Tryz.underlying35 AN (by omega) (by omega) (Az _ _)) ?_
  refine Zl AJ ?_
  refine Zo (C7 (ad' := ⟨g8, 1, none⟩) rfl rfl rfl Tryz.underlying35 AN (by omega) (by omega) (Az _ _)) ?_
  refine Zl AJ ?_
  refine Zo (Lk rfl rfl rfl) ?_
  refine Zo (C7 (ad' := ⟨g8, 0, none⟩) rfl rfl rfl Tryz.underlying35 AN (by omega) (by omega) (Az _ _)) ?_
  refine Zl AJ ?_
  refine Zo (C7 (ad' := ⟨g8, 1, none⟩) rfl rfl rfl Tryz.underlying35 AN (by omega) (by omega) (Az _ _)) ?_
  refine Zl AJ ?_
  refine Zo (Ll rfl rfl rfl) ?_
  refine Zo (As (cs := #[_, _]) rfl rfl E0 rfl rfl) ?_
  refine Zw (Ay rfl B6 rfl) fun g9 => ?_
  refine Zy (Ah (cs' := #[_, _]) rfl rfl rfl AP rfl (Ra rfl) rfl) ?_
  refine Zx <| DC.seq <| Zs ?_
  refine Zf Bf ?_
  refine Zl AJ ?_
  refine Zc ?_
  refine Zm ?_
  refine Seq.split 40 rfl (fun k8_3 => ?_) (fun k8_3 => ?_)
  ·refine Zk ?_
   iterate 3 refine Zk ?_
   refine Zt ?_
   refine Zx ?_
   refine AG rfl ?_
   refine Zs ?_
   refine Zo (As (cs := #[_, _]) rfl rfl E1 rfl rfl) ?_
   refine Zy (Ah (cs' := #[_, _]) rfl rfl rfl Bd rfl (Ra rfl) rfl) ?_
   refine Za ?_
   refine Zx <| DC.ret <| Aa <| Ae <| Aa <| Aa <| Ae <| Aa ?_
   refine AK (cs := #[_, _]) (.inl rfl) rfl rfl rfl Bs Bd ?_
   refine ⟨[slc (.slice none 0 0) 43 2 []], fun w hw => AU (hw.sub (Rh _)), 0, none, 0, 0, 2, [], rfl, rfl, by simp, fun _ => ⟨rfl, rfl, ?_⟩⟩
   rintro ⟨es, h⟩
   have h1 := h.rng p (Rc hp)
   unfold nrm at h1
   first
   | (have := of_decide_eq_true k8_3; dsimp only at h1; omega)
   | (have := of_decide_eq_true c8; dsimp only at h1; omega)
  refine Zf Bv ?_
  refine Zl AJ ?_
  refine Zm ?_
  refine Zo (Ck rfl rfl rfl) ?_
  refine Zg ?_
  refine Zx ?_
  refine Zd (fun c8 => ?_) fun c8 => ?_
  ·refine Zs ?_
   refine Zo (As (cs := #[_, _]) rfl rfl E1 rfl rfl) ?_
   refine Zy (Ah (cs' := #[_, _]) rfl rfl rfl Bd rfl (Ra rfl) rfl) ?_
   refine Za ?_
   refine Zx <| DC.ret <| Aa <| Ae <| Aa <| Aa <| Ae <| Aa ?_
   refine AK (cs := #[_, _]) (.inl rfl) rfl rfl rfl Bs Bd ?_
   refine ⟨[slc (.slice none 0 0) 43 2 []], fun w hw => AU (hw.sub (Rh _)), 0, none, 0, 0, 2, [], rfl, rfl, by simp, fun _ => ⟨rfl, rfl, ?_⟩⟩
   rintro ⟨es, h⟩
   have h1 := h.rng p (Rc hp)
   unfold nrm at h1
   first
   | (have := of_decide_eq_true k8_3; dsimp only at h1; omega)
   | (have := of_decide_eq_true c8; dsimp only at h1; omega)
  refine DC.skip <| Fin.then <| DC.seq ?_
  have hrng : 0 ≤ (nrm p).1 ∧ (nrm p).2 < n := by
   have h1 := of_decide_eq_false k8_3
   have h2 := of_decide_eq_false c8
   unfold nrm; dsimp only; omega
  refine DC.own (M := [mpc encP gm m, blk g9 43 #[.int .i64 (nrm p).1, .int .i64 (nrm p).2], blk g4 24 #[.int .i64 0, (.slice none 0 0)]]) (fun w hw => hw.pick (.cons 2 rfl (.cons 0 rfl (.cons 1 rfl .nil)))) ?_
  refine DC.region ?_
  refine Zm ?_
  refine Zu (Aq (vs := [_, _]) rfl rfl BW AP rfl (Ai rfl)) ?_
  refine Zy (BF (k := nrm p) 0 rfl FQ rfl rfl rfl rfl Tryz.underlying140 rfl) ?_
  refine Zx <| DC.seq ?_
  rw [List.set_cons_zero]
  refine DC.region ?_
  refine Zf Bf ?_
  refine Zl AJ ?_
  refine Zf Bv ?_
  refine Zl AJ ?_
  refine Zo (AW rfl rfl rfl) ?_
  refine Zx ?_
  refine Zd (fun c11 => ?_) fun c11 => ?_
  ·refine DC.region ?_
   refine Zm ?_
   refine Zu (Aq (vs := [_, _]) rfl rfl BW AP rfl (Ai rfl)) ?_
   refine Seq.gen0 rfl rfl (NB (k := nrm p) 0 rfl FQ rfl rfl rfl Tryz.underlying140) ?_
   rintro _ _ rfl
   refine Seq.nil <| Fin.inBlock <| Fin.then <| DC.region ?_
   refine Zp ?_
   refine Zm ?_
   refine Seq.nil ?_
   have he : (nrm p).1 = (nrm p).2 := of_decide_eq_true c11
   rw [List.set_cons_zero, OR (Nu hK he)]
   exact Fin.again ⟨i + 1, m⟩ (by dsimp only; omega) ⟨by dsimp only; omega, Mq hK hp hrng he⟩ ⟨rfl, rfl, rfl, rfl, rfl, rfl, trivial⟩ (.cons 0 rfl (.cons 1 rfl .nil))
  refine DC.skip <| Fin.inBlock <| Fin.then <| DC.region ?_
  refine Zp ?_
  refine Zm ?_
  refine Seq.nil ?_
  have he : (nrm p).1 ≠ (nrm p).2 := of_decide_eq_false c11
  exact Fin.again ⟨i + 1, putM (nrm p) (.bool true) m⟩ (by dsimp only; omega) ⟨by dsimp only; omega, Nt hK hp hrng he⟩ ⟨rfl, rfl, rfl, rfl, rfl, rfl, trivial⟩ (.cons 0 rfl (.cons 1 rfl .nil))
 refine DC.exit <| Ad <| Ad <| Ag <| Fin.then <| DC.seq <| Zs ?_
 refine Zm ?_
 refine Zu (IJ (enc := encP) (m := m) 0 rfl rfl rfl Tryz.underlying140) ?_
 refine Zo (Bx rfl rfl rfl) ?_
 refine Zx ?_
 refine Zd (fun c14 => ?_) fun c14 => ?_
 ·have hmany : 4194304 < m.length := by have := of_decide_eq_true c14; omega
  refine Zs ?_
  refine Zo (As (cs := #[_, _]) rfl rfl E1 rfl rfl) ?_
  refine Zy (Ah (cs' := #[_, _]) rfl rfl rfl Bd rfl (Ra rfl) rfl) ?_
  refine Za ?_
  refine Zx <| DC.ret <| Aa ?_
  refine AK (cs := #[_, _]) (.inl rfl) rfl rfl rfl Bs Bd ?_
  refine ⟨[slc (.slice none 0 0) 43 2 []], fun w hw => AU (hw.sub (Rh _)), 0, none, 0, 0, 141, [], rfl, rfl, by simp, fun _ => ⟨rfl, rfl, ?_⟩⟩
  rintro ⟨es, h⟩
  have hie : i = ps.length := by have := of_decide_eq_false c5; omega
  have hp := (List.perm_ext_iff_of_nodup hK.1 (Mp h.up)).2 fun x => by rw [hK.2.2.2 x, h.mem x, hie, List.take_length]
  have := hp.length_eq
  have := h.few
  simp at *
  omega
 refine DC.skip <| Fin.then <| Zs ?_
 refine Zm ?_
 refine Zo (As (cs := #[_, _]) rfl rfl E1 rfl rfl) ?_
 refine Zw (Ay rfl FF rfl) fun g10 => ?_
 refine Zy (Ah (cs' := #[_, _]) rfl rfl rfl Bd rfl (Ra rfl) rfl) ?_
 refine Zx <| DC.seq <| DC.seq ?_
 have hfew : m.length ≤ 4194304 := by have := of_decide_eq_false c14; omega
 have hie : i = ps.length := by have := of_decide_eq_false c5; omega
 subst hie
 rw [KeysR, List.take_length] at hK
 obtain ⟨hKn, hKl, hKr, hKm⟩ := hK
 refine DC.own (M := [mpc encP gm m, blk g10 24 #[.int .i64 n, (.slice none 0 0)], blk g4 24 #[.int .i64 0, (.slice none 0 0)]]) (fun w hw => hw.perm (List.Perm.swap _ _ _)) ?_
 refine DC.region ?_
 refine Zm ?_
 refine Seq.gen rfl rfl (LF (enc := encP) (m := m) 0 rfl rfl rfl Tryz.underlying140) ?_
 rintro _ _ ⟨gi, rfl, rfl⟩
 rw [List.set_cons_zero]
 refine Zx <| DC.block ?_
 refine DC.own (fun w hw => AU (t := 43) (m := 2) hw) ?_
 refine DC.loop (ι := MkJ) (fun q => (q.acc ++ q.left.map (·.1)).Perm (m.map (·.1))) (fun q => [(4, .pointer (some ⟨g4, 0, none⟩)), (10, .pointer (some ⟨g10, 0, none⟩)), (64, .pointer (some ⟨gi, 0, none⟩))])
  (fun q => [mit encP gm gi m q.left q.last, blk g10 24 #[.int .i64 n, q.v], slc q.v 43 2 (prs q.acc), blk g4 24 #[.int .i64 0, (.slice none 0 0)]]) (fun q => q.left.length) ⟨m, none, (.slice none 0 0), []⟩ (List.Perm.refl _) ⟨rfl, rfl, rfl, trivial⟩ (.cons 1 rfl (.cons 1 rfl (.cons 0 rfl (.cons 0 rfl .nil)))) ?_
 rintro ⟨left, last, v, acc⟩ hperm
 dsimp only at hperm ⊢
 have hal : acc.length + left.length = m.length := by have := hperm.length_eq; simp at this; exact this
 refine Ft (i := 2) (v := v) rfl (by omega) ?_
 rintro ⟨Av, cv, rfl⟩
 refine Zs ?_
 refine Seq.gen rfl rfl (NA (enc := encP) 0 rfl rfl rfl) ?_
 intro v65 L65 hC65
 obtain ⟨b, rest, rfl, hcase⟩ : ∃ b rest, v65 = .tuple ⟨.bool b :: rest⟩ ∧ ((b = false ∧ left = [] ∧ L65 = [mit encP gm gi m left last, blk g10 24 #[.int .i64 n, .slice Av acc.length cv], slc (.slice Av acc.length cv) 43 2 (prs acc), blk g4 24 #[.int .i64 0, (.slice none 0 0)]]) ∨ (b = true ∧ ∃ j p, left[j]? = some p ∧ L65 = [mit encP gm gi m (left.eraseIdx j) (some p), blk g10 24 #[.int .i64 n, .slice Av acc.length cv], slc (.slice Av acc.length cv) 43 2 (prs acc), blk g4 24 #[.int .i64 0, (.slice none 0 0)]])) := by
  rcases hC65 with ⟨rfl, h1, h2⟩ | ⟨j, p, h1, rfl, h2⟩
  ·exact ⟨false, [], rfl, .inl ⟨rfl, h1, h2⟩⟩
  exact ⟨true, _, rfl, .inr ⟨rfl, j, p, h1, by rw [h2]; rfl⟩⟩
 refine Ze ?_
 refine Zx <| DC.seq ?_
 refine Zd (fun c18 => ?_) fun c18 => ?_
 ·obtain ⟨j, p, hp, rfl⟩ : ∃ j p, left[j]? = some p ∧ L65 = [mit encP gm gi m (left.eraseIdx j) (some p), blk g10 24 #[.int .i64 n, .slice Av acc.length cv], slc (.slice Av acc.length cv) 43 2 (prs acc), blk g4 24 #[.int .i64 0, (.slice none 0 0)]] := by
   rcases hcase with ⟨h1, _⟩ | ⟨_, h1⟩
   ·rw [h1] at c18; cases c18
   exact h1
  clear hC65 hcase
  obtain ⟨x, xv⟩ := p
  have hjl := (Q9.1 hp).1
  have hel : (left.eraseIdx j).length = left.length - 1 := List.length_eraseIdx_of_lt hjl
  refine DC.skip <| Fin.then <| DC.block <| Zs ?_
  refine Zu (K9 (p := (x, xv)) 0 rfl rfl rfl) ?_
  refine Ze ?_
  refine Zw (Ay rfl B6 rfl) fun g11 => ?_
  refine Zy (Ah (cs' := #[_, _]) rfl rfl rfl AP rfl (Ra rfl) rfl) ?_
  refine Zx <| DC.region ?_
  refine Zf Br ?_
  refine Zl B9 ?_
  refine Zu (Aq (vs := [_, _]) rfl rfl BW AP rfl (Ai rfl)) ?_
  refine Zw (AM (cs := #[_, _]) rfl rfl Ru AP B6 rfl (by decide) (by decide) rfl rfl) fun g72 => ?_
  refine Seq.gen rfl rfl (Gen.shape (AR (F := [blk g72 43 #[.int .i64 x.1, .int .i64 x.2], blk g11 43 #[.int .i64 x.1, .int .i64 x.2], mit encP gm gi m (left.eraseIdx j) (some (x, xv)), blk g10 24 #[.int .i64 n, .slice Av acc.length cv], blk g4 24 #[.int .i64 0, (.slice none 0 0)]]) (vs := prs acc) (k := 1) (news := [.int .i64 x.1, .int .i64 x.2]) rfl rfl rfl Ru AP KU B6 rfl (by decide) (by decide)
   (fun w hw => hw.pick (.cons 4 rfl (Pick.all _))) (.inl ⟨_, _, rfl, Ai rfl⟩) rfl (by intro u hu; simp at hu; rcases hu with rfl | rfl <;> rfl) (by rw [prs_length]; omega))) ?_
  rintro _ _ ⟨⟨A73, l73, c73, rfl⟩, rfl⟩
  refine Zf Br ?_
  refine Zy (AB (cs' := #[_, _]) rfl rfl rfl PX rfl (Ra rfl) rfl) ?_
  refine Seq.nil <| Fin.inBlock ?_
  refine Fin.again ⟨left.eraseIdx j, some (x, xv), .slice A73 l73 c73, acc ++ [x]⟩ (by dsimp only; omega) ?_ ⟨rfl, rfl, rfl, trivial⟩ (.cons 3 rfl (.cons 3 rfl (.cons' 0 rfl (by dsimp only; rw [Cp]; rfl) (.cons 2 rfl .nil))))
  dsimp only
  refine List.Perm.trans ?_ hperm
  rw [List.append_assoc]
  refine List.Perm.append_left _ ?_
  exact (Lj hp).map (·.1)
 refine DC.exit <| Ad <| Ad <| Ag <| Fin.then <| DC.seq ?_
 have hnil : left = [] := by
  rcases hcase with ⟨_, h, _⟩ | ⟨h, _⟩
  ·exact h
  rw [h] at c18; cases c18
 obtain rfl : L65 = [mit encP gm gi m left last, blk g10 24 #[.int .i64 n, .slice Av acc.length cv], slc (.slice Av acc.length cv) 43 2 (prs acc), blk g4 24 #[.int .i64 0, (.slice none 0 0)]] := by
  rcases hcase with ⟨_, _, h⟩ | ⟨h, _⟩
  ·exact h
  rw [h] at c18; cases c18
 clear hC65 hcase
 subst hnil
 rw [List.map_nil, List.append_nil] at hperm
 have hrn : ∀ e, e ∈ acc → 0 ≤ e.1 ∧ e.1 ≤ e.2 ∧ e.2 < n := fun e he => by
  obtain ⟨p, hp, e1, _⟩ := (hKm e).1 (hperm.mem_iff.1 he)
  have := hKr p hp
  rw [e1] at this
  have h2 : (nrm p).1 ≤ (nrm p).2 := by unfold nrm; dsimp only; omega
  rw [e1] at h2
  exact ⟨this.1, h2, this.2⟩
 have hbs := Nq hn0.2 hrn
 have hbl : acc.length ≤ 4194304 := by simp at hal; omega
 refine DC.own (M := [slc (.slice Av acc.length cv) 43 2 (prs acc), blk g10 24 #[.int .i64 n, .slice Av acc.length cv], blk g4 24 #[.int .i64 0, (.slice none 0 0)]]) (fun w hw => hw.pick (.cons 2 rfl (.cons 1 rfl (.cons 1 rfl .nil)))) ?_
 refine DC.region ?_
 refine Zf Br ?_
 refine Zl B9 ?_
 refine Seq.gen rfl rfl (AQ Ql rfl rfl rfl (Lc := [slc (.slice Av acc.length cv) 43 2 (prs acc)]) (F := [blk g10 24 #[.int .i64 n, .slice Av acc.length cv], blk g4 24 #[.int .i64 0, (.slice none 0 0)]]) (.refl _) (fun k hk => hk) (fun w hw => IU hbs (hw.sub (L' := [slc (.slice Av acc.length cv) 43 2 (prs acc)]) (.cons_cons _ (Rh _))).self (by omega))) ?_
 rintro v77 _ ⟨_, ⟨fs, rfl, hfp, hfs⟩, rfl⟩
 simp only [zs]
 refine Zx <| Zs ?_
 refine Zu (Aq (vs := [_, _]) rfl rfl Bs Bd rfl (Ai rfl)) ?_
 refine Zy (Ah (cs' := #[_, _]) rfl rfl rfl Bd rfl (Ra rfl) rfl) ?_
 refine Za ?_
 refine Zx <| DC.ret ?_
 refine AK (cs := #[_, _]) (.inl rfl) rfl rfl rfl Bs Bd ?_
 have hfn : fs.Nodup := (hfp.trans hperm).nodup_iff.2 hKn
 refine ⟨[slc (.slice Av acc.length cv) 43 2 (prs fs)], fun w hw => hw.pick (.cons 0 rfl .nil), n, _, _, _, 0, fs, rfl, rfl, fun _ => ⟨rfl, hn0.1, hn0.2, hKr, ?_, fun x => ?_, ?_⟩, by simp⟩
 ·refine (hfs.and hfn).imp fun {a b} h => ?_
  obtain ⟨h1, h2⟩ := h
  unfold Lex at h1 ⊢
  by_cases e1 : a.1 = b.1
  ·by_cases e2 : a.2 = b.2
   ·exact absurd (Prod.ext e1 e2) h2
   omega
  omega
 ·rw [(hfp.trans hperm).mem_iff, hKm x]
 rw [hfp.length_eq]; exact hbl
structure AllI where
 i : Nat
 vt : Value
 tk : List Tk
theorem Kf {gs : Nat} {vb vt : Value} {bs : List UInt8} {w : World} (hO : Own w (idsOf (scL gs vb vt 0 [])) w (scL gs vb vt 0 [])) (hB : ByV w vb bs) (ho : ByO vb bs (idsOf (scL gs vb vt 0 []))) :
  Calls Tryz.prog 106 #[.pointer (some ⟨gs, 0, none⟩)] w
   (RetP w (idsOf (scL gs vb vt 0 [])) (fun r M => r = .tuple #[] ∧ ∃ vt' j tk', M = scL gs vb vt' j tk' ∧ scanA bs = .ok tk' ∧ tk'.length ≤ 33554433)
    (fun pv M => ∃ a e, pv = sflt a e ∧ scanA bs = .bad a e)) := by
 obtain ⟨A, cap, hvb, hR, hb1, hb2⟩ := id hB
 refine CK (args := [_]) Tryz.func106 rfl Tryz.ntmps106 rfl hO ?_
 subst hvb
 unfold scL at ho ⊢
 refine DC.seq <| Zs ?_
 refine Zm ?_
 refine Zo (AA rfl rfl) ?_
 refine Zf C2 ?_
 refine Zl Ef ?_
 refine Zn Rv ?_
 refine Zo (Bx rfl rfl rfl) ?_
 refine Zx ?_
 refine Zd (fun c0 => ?_) fun c0 => ?_
 ·refine DC.region ?_
  refine Zo (As (cs := #[_, _]) rfl rfl LP rfl rfl) ?_
  refine Zo (Ep (v := sflt 33554432 10) rfl rfl (fun w => by kernel_rfl)) ?_
  refine Seq.panic rfl rfl rfl ?_
  refine Aj <| ?_
  refine AZ ⟨33554432, 10, rfl, ?_⟩
  have : 33554432 < bs.length := by simp at c0; omega
  simp [scanA, this]
 have hlen : bs.length ≤ 33554432 := by simp at c0; omega
 have hsA : scanA bs = scanF 0 bs [] := by rw [scanA, if_neg (by omega)]
 refine DC.skip <| Fin.then <| DC.seq <| DC.block ?_
 refine DC.loop (ι := AllI) (fun j => j.i ≤ bs.length ∧ j.tk.length ≤ j.i ∧ scanA bs = scanF j.i (bs.drop j.i) j.tk)
  (fun j => [(0, .pointer (some ⟨gs, 0, none⟩))]) (fun j => [blk gs 176 #[.slice A bs.length cap, .int .i64 (j.i : Nat), j.vt], slc j.vt 138 4 (tks j.tk)]) (fun j => bs.length - j.i) ⟨0, vt, []⟩ ⟨by simp, by simp, hsA⟩ ⟨rfl, trivial⟩ (.cons 0 rfl (.cons 0 rfl .nil)) ?_
 rintro ⟨i, vt, tk⟩ ⟨hi, htl, hsc⟩
 dsimp only at hi htl hsc ⊢
 refine DC.seq <| DC.seq ?_
 refine AC (cl := [.q, .q, .q, .v, .q, .q, .q, .v, .q, .q]) (A := [0, 1, 3, 7, 0, 16, 48, 112, 240, 511]) (order := [0, 1, 2, 3, 4, 5, 6, 7, 8, 9]) [] mixed (by kernel_rfl) (fun w hw => hw.pick .nil) ?_
 refine Ym ?_
 refine Yo rfl (AA rfl rfl) ?_
 refine Yf Bi ?_
 refine Yl AJ ?_
 refine Ym ?_
 refine Yo rfl (AA rfl rfl) ?_
 refine Yf C2 ?_
 refine Yl Ef ?_
 refine Yo rfl (CY rfl rfl Rv) ?_
 refine Yo rfl (Gl rfl rfl rfl) ?_
 refine Flow.end rfl ?_
 simp only [zq, zr]
 refine Fin.then ?_
 refine Zd (fun c2 => ?_) fun c2 => ?_
 ·have hil : i < bs.length := by simpa using c2
  obtain ⟨c, hc⟩ : ∃ c, bs[i]? = some c := ⟨_, Q8 hil⟩
  obtain ⟨ad, rfl, hcell⟩ := hR.byte hc
  refine DC.skip <| Fin.then <| DC.block <| DC.seq ?_
  refine AC (cl := [.q, .q, .q, .v, .q, .q, .q, .v, .q, .v, .q]) (A := [0, 1, 3, 7, 0, 16, 48, 112, 255, 511, 1023]) (order := [0, 1, 2, 3, 4, 5, 6, 7, 8, 9, 10]) [] mixed (by kernel_rfl) (fun w hw => hw.pick .nil) ?_
  refine Ym ?_
  refine Yo rfl (AA rfl rfl) ?_
  refine Yf C2 ?_
  refine Yl Ef ?_
  refine Ym ?_
  refine Yo rfl (AA rfl rfl) ?_
  refine Yf Bi ?_
  refine Yl AJ ?_
  refine Yo rfl (Aw (ad' := ad.add i) rfl rfl rfl Rv MS (by omega) (by omega) (by rw [Rb])) ?_
  refine Ar rfl rfl rfl rfl (Ak rfl rfl Og (hB.has ho hc)) ?_
  refine Yo rfl (AF rfl rfl) ?_
  refine Flow.end rfl ?_
  simp only [zq, zr]
  refine Fin.then <| DC.block <| Zs ?_
  refine Zm ?_
  refine Seq.rel0 rfl rfl (Am O6 rfl rfl rfl (fun w hw => EB (i := i) (vt := vt) (hw.holds _ (Ri ..)) (hB.keep ho hw))) ?_
  rintro _ rfl
  refine Za ?_
  refine Zx ?_
  refine Zd (fun c5 => ?_) fun c5 => ?_
  ·have hd : digAt bs i = true := by simpa using c5
   refine DC.region ?_
   refine Zm ?_
   refine Dc rfl rfl QK rfl rfl rfl (Lc := scL gs (.slice (some ad) bs.length cap) vt i tk) (F := []) (.refl _) (fun k hk => hk) (fun w hw => Kb hw.self (hB.keep ho hw) (ByO.step hB ho hw) (by omega) hlen hd) ?_ ?_
   ·rintro pv L' ⟨a, e, rfl, h⟩
    refine At <| At <| Aj <| At <| Aj <| ?_
    exact AZ ⟨a, e, rfl, hsc.trans h⟩
   rintro _ _ ⟨rfl, vt', j, tk', rfl, ⟨hj, hj2⟩, htk, hsc'⟩
   refine Seq.nil <| Fin.inBlock <| Fin.inBlock ?_
   refine Fin.again ⟨j, vt', tk'⟩ (by dsimp only; omega) ⟨by dsimp only; omega, by dsimp only; omega, hsc.trans hsc'⟩ ⟨rfl, trivial⟩ (.cons 0 rfl (.cons 0 rfl .nil))
  have hd : isDig c = false := by simpa [digAt, hc] using c5
  refine Zs ?_
  refine Zm ?_
  refine Zo (AW rfl rfl rfl) ?_
  refine Za ?_
  refine Zx ?_
  refine Zd (fun c7 => ?_) fun c7 => ?_
  ·have hc10 : c.toNat = 10 := by simp at c7; omega
   have hst := Ge (acc := tk) hc hd hc10
   refine Zs ?_
   refine Zm ?_
   refine Zo (AA rfl rfl) ?_
   refine Zf Bi ?_
   refine Zl AJ ?_
   refine Zp ?_
   refine Zo (AA rfl rfl) ?_
   refine Zf Bi ?_
   refine Zy (AB (cs' := #[_, _, _]) rfl rfl rfl AN rfl (Ra rfl) rfl) ?_
   refine Seq.nil ?_
   rw [show ((i : Int) + 1) = ((i + 1 : Nat) : Int) from rfl]
   refine Fin.then <| DC.region ?_
   iterate 2 refine Zm ?_
   refine Zo (AA rfl rfl) ?_
   refine Zf Bi ?_
   refine Zl AJ ?_
   refine Zo (Ce rfl rfl rfl (by omega)) ?_
   refine Seq.gen rfl rfl (AQ LL rfl rfl rfl (Lc := scL gs (.slice (some ad) bs.length cap) vt (i + 1) tk) (F := []) (.refl _) (fun k hk => hk) (fun w hw => Di hw.self (by omega))) ?_
   rintro _ _ ⟨_, ⟨rfl, vt', rfl⟩, rfl⟩
   rw [show ((i + 1 : Nat) : Int) - 1 = (i : Int) by omega]
   refine Seq.nil <| Fin.inBlock <| Fin.inBlock ?_
   refine Fin.again ⟨i + 1, vt', tk ++ [⟨2, i, (i + 1 : Nat), 0⟩]⟩ (by dsimp only; omega) ⟨by dsimp only; omega, by simp; omega, hsc.trans hst⟩ ⟨rfl, trivial⟩ (.cons 0 rfl (.cons 0 rfl .nil))
  have hc10 : c.toNat ≠ 10 := by simp at c7; omega
  refine Zs ?_
  refine Zm ?_
  refine Zo (AW rfl rfl rfl) ?_
  refine Zm ?_
  refine Seq.split 62 rfl (fun k10_2 => ?_) (fun k10_2 => ?_)
  ·refine Zk ?_
   refine Zk ?_
   refine Zt ?_
   refine Zm ?_
   iterate 2 refine Zk ?_
   refine Zt ?_
   refine Za ?_
   refine Zx ?_
   refine AG rfl ?_
   refine DC.region ?_
   refine Zm ?_
   refine Zo (AA rfl rfl) ?_
   refine Zf Bi ?_
   refine Zl AJ ?_
   refine Zp ?_
   refine Zo (AA rfl rfl) ?_
   refine Zf Bi ?_
   refine Zy (AB (cs' := #[_, _, _]) rfl rfl rfl AN rfl (Ra rfl) rfl) ?_
   refine Seq.nil ?_
   rw [show ((i : Int) + 1) = ((i + 1 : Nat) : Int) from rfl]
   refine Fin.inBlock <| Fin.inBlock ?_
   refine Fin.again ⟨i + 1, vt, tk⟩ (by dsimp only; omega) ⟨by dsimp only; omega, by dsimp only; omega, hsc.trans (D6 hc hd hc10 ?_)⟩ ⟨rfl, trivial⟩ (.cons 0 rfl (.cons 0 rfl .nil))
   first
   | (simp at k10_2; omega)
   | (simp at k10_6; omega)
   | (simp at c10; omega)
  refine Zm ?_
  refine Zo (AW rfl rfl rfl) ?_
  refine Zg ?_
  refine Zm ?_
  refine Seq.split 66 rfl (fun k10_6 => ?_) (fun k10_6 => ?_)
  ·refine Zk ?_
   refine Zk ?_
   refine Zt ?_
   refine Za ?_
   refine Zx ?_
   refine AG rfl ?_
   refine DC.region ?_
   refine Zm ?_
   refine Zo (AA rfl rfl) ?_
   refine Zf Bi ?_
   refine Zl AJ ?_
   refine Zp ?_
   refine Zo (AA rfl rfl) ?_
   refine Zf Bi ?_
   refine Zy (AB (cs' := #[_, _, _]) rfl rfl rfl AN rfl (Ra rfl) rfl) ?_
   refine Seq.nil ?_
   rw [show ((i : Int) + 1) = ((i + 1 : Nat) : Int) from rfl]
   refine Fin.inBlock <| Fin.inBlock ?_
   refine Fin.again ⟨i + 1, vt, tk⟩ (by dsimp only; omega) ⟨by dsimp only; omega, by dsimp only; omega, hsc.trans (D6 hc hd hc10 ?_)⟩ ⟨rfl, trivial⟩ (.cons 0 rfl (.cons 0 rfl .nil))
   first
   | (simp at k10_2; omega)
   | (simp at k10_6; omega)
   | (simp at c10; omega)
  refine Zm ?_
  refine Zo (AW rfl rfl rfl) ?_
  refine Zg ?_
  refine Za ?_
  refine Zx ?_
  refine Zd (fun c10 => ?_) fun c10 => ?_
  ·refine DC.region ?_
   refine Zm ?_
   refine Zo (AA rfl rfl) ?_
   refine Zf Bi ?_
   refine Zl AJ ?_
   refine Zp ?_
   refine Zo (AA rfl rfl) ?_
   refine Zf Bi ?_
   refine Zy (AB (cs' := #[_, _, _]) rfl rfl rfl AN rfl (Ra rfl) rfl) ?_
   refine Seq.nil ?_
   rw [show ((i : Int) + 1) = ((i + 1 : Nat) : Int) from rfl]
   refine Fin.inBlock <| Fin.inBlock ?_
   refine Fin.again ⟨i + 1, vt, tk⟩ (by dsimp only; omega) ⟨by dsimp only; omega, by dsimp only; omega, hsc.trans (D6 hc hd hc10 ?_)⟩ ⟨rfl, trivial⟩ (.cons 0 rfl (.cons 0 rfl .nil))
   first
   | (simp at k10_2; omega)
   | (simp at k10_6; omega)
   | (simp at c10; omega)
  refine DC.region ?_
  refine Zm ?_
  refine Zo (AA rfl rfl) ?_
  refine Zf Bi ?_
  refine Zl AJ ?_
  refine Zo (As (cs := #[_, _]) rfl rfl LP rfl rfl) ?_
  refine Zo (Ep (v := sflt i 11) rfl rfl (fun w => by kernel_rfl)) ?_
  refine Seq.panic rfl rfl rfl ?_
  refine At <| At <| Aj <| At <| Aj <| ?_
  exact AZ ⟨i, 11, rfl, hsc.trans (L3 hc hd hc10 (by simp at k10_2 k10_6 c10; omega))⟩
 refine DC.exit <| Ad <| Ad <| Ag <| Fin.then <| DC.region ?_
 iterate 2 refine Zm ?_
 refine Zo (AA rfl rfl) ?_
 refine Zf Bi ?_
 refine Zl AJ ?_
 refine Seq.gen rfl rfl (AQ LL rfl rfl rfl (Lc := scL gs (.slice A bs.length cap) vt i tk) (F := []) (.refl _) (fun k hk => hk) (fun w hw => Di hw.self (by omega))) ?_
 rintro _ _ ⟨_, ⟨rfl, vt', rfl⟩, rfl⟩
 refine Seq.nil ?_
 refine CX (.inr rfl) (BL (.inr rfl) rfl ?_)
 have hil : i = bs.length := by simp at c2; omega
 refine ⟨rfl, vt', i, _, List.append_nil _, ?_, by simp; omega⟩
 rw [hsc, LZ (by omega) (by omega)]
end Go.Fl
