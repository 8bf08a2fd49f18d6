/- Part 3 of the proof: the library of the walk and the walks, in build order; no condition. -/
import Derived.Test.YthjmapekjggdjaaGreatDoorZO2
set_option linter.unusedVariables false
set_option linter.unusedSimpArgs false
set_option linter.unusedSectionVars false
set_option maxRecDepth 100000
namespace Go.Fl
open Go Go.Proofs
theorem rd_base {w0 w w' : World} {L0 L : List Chunk} {A : Option Addr} {vs : List Value} (h : Rd w0 A vs) (hO : Own w0 [] w L0) (hw : Own w (idsOf L0) w' L) : Rd w' A vs := by
 intro j u hj
 obtain ⟨ad, rfl, hc⟩ := h j u hj
 exact ⟨ad, rfl, FA hO hc w' hw⟩
theorem lsv_base {w0 w w' : World} {L0 L : List Chunk} {v : Value} {ls : List (List Int)} (h : LsV w0 v ls) (hO : Own w0 [] w L0) (hw : Own w (idsOf L0) w' L) : LsV w' v ls := by
 obtain ⟨A, cap, rfl, hr, h1, h2, h3⟩ := h
 refine ⟨A, cap, rfl, fun i l hi => ?_, h1, h2, h3⟩
 obtain ⟨ad, lv, rfl, hc, B, cb, rfl, hb, h4⟩ := hr i l hi
 exact ⟨ad, _, rfl, FA hO hc w' hw, B, cb, rfl, rd_base hb hO hw, h4⟩
theorem JU {N : Int} {es : List Pr} {rs : List (List Int)} {va v : Value} {w0 w : World} {ga gb : Nat} (hg : PrV w0 va es) (hl : LsV w0 v rs)
  (hO : Own w0 [] w [blk gb 59 #[v], blk ga 24 #[.int .i64 N, va]]) :
  Calls Tryz.prog 113 #[.pointer (some ⟨ga, 0, none⟩), .pointer (some ⟨gb, 0, none⟩)] w
   (RetP w (idsOf [blk gb 59 #[v], blk ga 24 #[.int .i64 N, va]]) (fun _ M => RotL N es rs) (fun pv M => ∃ x e, pv = flt x e ∧ (e ≠ 0 ∧ ¬ RotL N es rs))) := by
 refine Da (args := [_, _]) Tryz.func113 rfl Tryz.ntmps113 rfl hO.self ?_
 refine DC.region ?_
 refine Zu (Aw (vs := [_, _]) rfl rfl Bo Bh rfl (Am rfl)) ?_
 refine Zl ag59 ?_
 refine DF rfl rfl en114 rfl rfl rfl (Lc := []) (F := [blk gb 59 #[v], blk ga 24 #[.int .i64 N, va]]) (.refl _) (fun k hk => by simp at hk) (fun w' hw => K1 (N := N) (rs := rs) (Hg hg hO hw) (lsv_base hl hO hw)) ?_ ?_
 ·rintro _ M ⟨x, e, rfl, hbad⟩
  exact Bn ⟨x, e, rfl, hbad⟩
 rintro _ M ⟨hok, rfl⟩
 refine Seq.nil ?_
 refine Do (.inr rfl) (B2 (.inr rfl) rfl hok)
theorem Lj {N : Int} {es : List Pr} {rs : List (List Int)} {va v : Value} {w : World} (hg : PrV w va es) (hl : LsV w v rs) :
  Calls Tryz.prog 87 #[.agg #[.int .i64 N, va], v] w (Ret w [] fun r M => M = [] ∧ ∃ x e, r = .tuple #[.int .i64 x, .int .i64 e] ∧ (e = 0 ↔ RotL N es rs)) := by
 have hg0 := hg
 have hl0 := hl
 obtain ⟨A, cap, rfl, hr, hlc, hcm, hle⟩ := hg
 obtain ⟨B, capb, rfl, hrb, hlb, hcb, hleb⟩ := hl
 refine At (args := [_, _]) (L := []) Tryz.func87 rfl Tryz.ntmps87 rfl (Own.start _ _) ?_
 refine Zs ?_
 refine Zw (AR rfl rfl rfl) fun g2 => ?_
 refine Zw (AR rfl rfl rfl) fun g3 => ?_
 refine Za ?_
 refine Za ?_
 refine Zx <| DC.seq ?_
 refine DC.own (M := [blk g3 59 #[.slice B rs.length capb], blk g2 24 #[.int .i64 N, .slice A es.length cap]]) (fun w hw => hw) ?_
 refine DC.region ?_
 refine Zo (F3 rfl rfl rfl) ?_
 refine Seq.gen rfl rfl (BK en112 rfl rfl rfl (Lc := [blk g3 59 #[.slice B rs.length capb], blk g2 24 #[.int .i64 N, .slice A es.length cap]]) (F := []) (.refl _) (fun k hk => hk)
  (fun w' hw => FL (cap := #[.pointer (some ⟨g2, 0, none⟩), .pointer (some ⟨g3, 0, none⟩)]) (C := fun M => RotL N es rs)
   (D := fun v e M => e ≠ 0 ∧ ¬ RotL N es rs) en113 hw.self (fun w'' hw'' => JU hg0 hl0 (by simpa using Own.frame (F := []) (by simpa using hw) hw'' (fun k hk => hk))))) ?_
 rintro v12 _ ⟨M, hC, rfl⟩
 have hD : ∃ v e, v12 = .tuple #[.int .i64 v, .int .i64 e] ∧ (e = 0 ↔ RotL N es rs) := by
  rcases hC with ⟨rfl, hC⟩ | ⟨v, e, rfl, hC⟩
  ·exact ⟨0, 0, rfl, by simp [hC]⟩
  ·exact ⟨v, e, rfl, by simp [hC.1, hC.2]⟩
 clear hC
 obtain ⟨xv, xe, rfl, hD⟩ := hD
 refine Ze ?_
 refine Ze ?_
 refine Za ?_
 refine Za ?_
 refine Zx <| DC.ret ?_
 refine Fin.weak (E' := [(4, _), (5, _)]) ⟨rfl, rfl, trivial⟩ .nil ?_
 refine AK (.inl rfl) rfl rfl rfl ?_
 exact ⟨rfl, xv, xe, rfl, hD⟩
/-- By half-edge, the one that follows it at its vertex. -/
def NxOk (rs : List (List Int)) (v : Nat) (f : Nat → Int) : Prop := ∀ (x : Nat) l (i : Nat) h, x < v → rs[x]? = some l → l[i]? = some h → l[(i + 1) % l.length]? = some (f h.toNat)
structure NxI where
 v : Nat
 f : Nat → Int
theorem Next_calls {N : Int} {es : List Pr} {rs : List (List Int)} {va v : Value} {w : World} (hg : PrV w va es) (hl : LsV w v rs) :
  Calls Tryz.prog 174 #[.agg #[.int .i64 N, va], v] w (Ret w [] fun r M =>
   (RotL N es rs ∧ ∃ g f, r = .tuple #[.slice (some ⟨g, 0, none⟩) (es.length * 2) (es.length * 2), .int .i64 0] ∧ NxOk rs rs.length f ∧ M = [blk g 3 (ints (tab (es.length * 2) f)).toArray]) ∨
   (¬ RotL N es rs ∧ M = [] ∧ ∃ e, r = .tuple #[.slice none 0 0, .int .i64 e] ∧ e ≠ 0)) := by
 have hg0 := hg
 have hl0 := hl
 obtain ⟨A, cap, rfl, hr, hlc, hcm, hle⟩ := hg
 obtain ⟨B, capb, rfl, hrb, hlb, hcb, hleb⟩ := hl
 refine At (args := [_, _]) (L := []) Tryz.func174 rfl Tryz.ntmps174 rfl (Own.start _ _) ?_
 refine Zs ?_
 refine Zw (AR rfl rfl rfl) fun g2 => ?_
 refine Za ?_
 refine Za ?_
 refine Zx <| DC.seq <| Zs ?_
 refine Zu (Aw (vs := [_, _]) rfl rfl Bo Bh rfl (Am rfl)) ?_
 refine Zm ?_
 refine Seq.rel0 rfl rfl (Ao en87 rfl rfl rfl (fun w' hw => Lj (hg0.keep0 hw) (hl0.keep0 hw))) ?_
 rintro _ ⟨xv, xe, rfl, hxe⟩
 refine Zm ?_
 refine Ze ?_
 refine Ze ?_
 refine Za ?_
 refine Za ?_
 refine Zx <| Zs ?_
 refine Zm ?_
 refine Zo (BB rfl rfl rfl) ?_
 refine Zx ?_
 refine Zd (fun c2 => ?_) fun c2 => ?_
 ·refine Zs ?_
  refine Zm ?_
  refine Za ?_
  refine Za ?_
  refine Zx <| DC.ret <| Aa ?_
  refine Fin.weak (E' := [(4, _), (5, _)]) ⟨rfl, rfl, trivial⟩ .nil ?_
  refine AK (.inl rfl) rfl rfl rfl ?_
  have hne : xe ≠ 0 := by simpa using c2
  exact .inr ⟨fun h => hne (hxe.2 h), rfl, xe, rfl, hne⟩
 ·refine DC.skip <| Fin.then <| DC.seq ?_
  have hok : RotL N es rs := hxe.1 (by simpa using c2)
  obtain ⟨hV, hN, hrow⟩ := id hok
  have hfew := hV.few
  refine DC.region ?_
  refine Zf AS ?_
  refine Zl Bj ?_
  refine Zn Tryz.underlying22 ?_
  refine Zo (Ci rfl rfl rfl (by omega)) ?_
  refine Zw (B1 (k := es.length * 2) rfl rfl rfl Tryz.underlying44 AL Dp BT (by omega) (by omega) (by omega) (B9 _)) fun g26 => ?_
  refine Za ?_
  refine Zx <| DC.seq <| Zs ?_
  refine Zm ?_
  refine Zn Tryz.underlying59 ?_
  refine Zm ?_
  refine Zx <| DC.block ?_
  refine DC.loop (ι := NxI) (fun j => j.v ≤ rs.length ∧ NxOk rs j.v j.f)
   (fun j => [(8, .slice (some ⟨g26, 0, none⟩) (es.length * 2) (es.length * 2)), (27, .slice B rs.length capb), (28, .int .i64 rs.length), (29, .int .i64 j.v)])
   (fun j => [blk g26 3 (ints (tab (es.length * 2) j.f)).toArray]) (fun j => rs.length - j.v) ⟨0, fun _ => 0⟩ ⟨Nat.zero_le _, fun _ _ _ _ h => absurd h (Nat.not_lt_zero _)⟩ ⟨rfl, rfl, rfl, rfl, trivial⟩ (.cons 0 rfl .nil) ?_
  rintro ⟨v, f⟩ ⟨hv, hd⟩
  dsimp only at hv hd ⊢
  refine Zs ?_
  refine Zc ?_
  refine Zx <| DC.seq ?_
  refine Zd (fun c6 => ?_) fun c6 => ?_
  ·have hvlt : v < rs.length := by simpa using c6
   obtain ⟨l, hl⟩ : ∃ l, rs[v]? = some l := ⟨_, List.getElem?_eq_getElem hvlt⟩
   obtain ⟨adb, lv, rfl, hc, Al, capl, rfl, hrl, hl1, hl2, hl3⟩ := hrb v l hl
   obtain ⟨hfr, hnd, _⟩ := hrow v l hl
   refine DC.skip <| Fin.then <| DC.seq <| DC.block <| Zs ?_
   refine Zi Tryz.underlying59 Br ?_
   refine Zu (Ai rfl rfl Bp (Ar hc)) ?_
   refine Za ?_
   refine Zx <| Zs ?_
   refine Zm ?_
   refine Zn Tryz.underlying44 ?_
   refine Zm ?_
   refine Zx <| DC.block ?_
   refine DC.loop (ι := NxI) (fun j => j.v ≤ l.length ∧ NxOk rs v j.f ∧ ∀ (i : Nat) h, i < j.v → l[i]? = some h → l[(i + 1) % l.length]? = some (j.f h.toNat))
    (fun j => [(8, .slice (some ⟨g26, 0, none⟩) (es.length * 2) (es.length * 2)), (10, .slice Al l.length capl), (27, .slice (some adb) rs.length capb), (28, .int .i64 rs.length), (29, .int .i64 v), (33, .slice Al l.length capl), (34, .int .i64 l.length), (35, .int .i64 j.v)])
    (fun j => [blk g26 3 (ints (tab (es.length * 2) j.f)).toArray]) (fun j => l.length - j.v) ⟨0, f⟩ ⟨Nat.zero_le _, hd, fun _ _ h => absurd h (Nat.not_lt_zero _)⟩ ⟨rfl, rfl, rfl, rfl, rfl, rfl, rfl, rfl, trivial⟩ (.cons 0 rfl .nil) ?_
   rintro ⟨k, f2⟩ ⟨hk, hd2, hin⟩
   dsimp only at hk hd2 hin ⊢
   refine Zs ?_
   refine Zc ?_
   refine Zx <| DC.seq ?_
   refine Zd (fun c9 => ?_) fun c9 => ?_
   ·have hklt : k < l.length := by simpa using c9
    obtain ⟨h, hh⟩ : ∃ h, l[k]? = some h := ⟨_, List.getElem?_eq_getElem hklt⟩
    obtain ⟨hh0, hh1, hh2⟩ := hfr h (List.mem_of_getElem? hh)
    obtain ⟨adl, rfl, hch⟩ := hrl.int hh
    have hml : (k + 1) % l.length < l.length := Nat.mod_lt _ (by omega)
    obtain ⟨h', hh'⟩ : ∃ h', l[(k + 1) % l.length]? = some h' := ⟨_, List.getElem?_eq_getElem hml⟩
    obtain ⟨adl', e, hch'⟩ := hrl.int hh'
    cases e
    have emod : ((k : Int) + 1) % (l.length : Int) = (((k + 1) % l.length : Nat) : Int) := by rw [Int.natCast_emod, Int.natCast_add]; rfl
    refine DC.skip <| Fin.then <| DC.seq <| DC.block <| Zs ?_
    refine Zm ?_
    refine Zi Tryz.underlying44 AL ?_
    refine Zu (Ai rfl rfl AI (Ar hch)) ?_
    refine Za ?_
    refine Za ?_
    refine Zx <| DC.region ?_
    refine Zm ?_
    refine Zm ?_
    refine Zm ?_
    refine Zm ?_
    refine Zp ?_
    refine Zm ?_
    refine Zn Tryz.underlying44 ?_
    refine Zo (Is (j := (l.length : Int)) rfl rfl rfl (by omega) (by omega)) ?_
    rw [emod]
    refine Zi Tryz.underlying44 AL ?_
    refine Zu (Ai rfl rfl AI (Ar hch')) ?_
    refine Zi Tryz.underlying44 AL ?_
    refine Zy (AF (cs' := (ints (tab (es.length * 2) (upd f2 h.toNat h'))).toArray) rfl rfl rfl AL rfl (by simp; omega) BQ) ?_
    refine Seq.nil <| Fin.inBlock <| Fin.then <| DC.region ?_
    refine Zp ?_
    refine Zm ?_
    refine Seq.nil ?_
    refine Fin.again (NxI.mk (k + 1) (upd f2 h.toNat h')) (by dsimp only; omega) ⟨by dsimp only; omega, ?_, ?_⟩ ⟨rfl, rfl, rfl, rfl, rfl, rfl, rfl, rfl, trivial⟩ (.cons 0 rfl .nil)
    ·intro x l' i h2 hx hl' hi2
     dsimp only
     unfold upd
     rw [if_neg ?_]
     ·exact hd2 x l' i h2 hx hl' hi2
     ·intro e
      obtain ⟨h4, h5, h6⟩ := (hrow x l' hl').1 h2 (List.mem_of_getElem? hi2)
      have : h2 = h := by omega
      subst this
      omega
    ·intro i h2 hi2 hl2
     dsimp only at hi2 ⊢
     unfold upd
     split
     ·rename_i e
      have h4 := (hfr h2 (List.mem_of_getElem? hl2)).1
      have : h2 = h := by omega
      subst this
      have : i = k := (List.getElem?_inj (by have := (List.getElem?_eq_some_iff.1 hl2).1; exact this) hnd).1 (hl2.trans hh.symm)
      subst this; exact hh'
     ·rename_i e
      rcases Nat.lt_succ_iff_lt_or_eq.1 hi2 with hi2 | rfl
      ·exact hin i h2 hi2 hl2
      ·rw [hh] at hl2; cases hl2; exact absurd rfl e
   ·refine DC.exit <| Ad <| Ad <| Ag <| Fin.inBlock <| Fin.then <| DC.region ?_
    refine Zp ?_
    refine Zm ?_
    refine Seq.nil ?_
    have hkl : k = l.length := by simp at c9; omega
    subst hkl
    refine Fin.again (NxI.mk (v + 1) f2) (by dsimp only; omega) ⟨by dsimp only; omega, ?_⟩ ⟨rfl, rfl, rfl, rfl, trivial⟩ (.cons 0 rfl .nil)
    intro x l' i h2 hx hl' hi2
    dsimp only at hx ⊢
    rcases Nat.lt_succ_iff_lt_or_eq.1 hx with hx | rfl
    ·exact hd2 x l' i h2 hx hl' hi2
    ·rw [hl] at hl'; cases hl'
     exact hin i h2 (List.getElem?_eq_some_iff.1 hi2).1 hi2
  ·refine DC.exit <| Ad <| Ad <| Ag <| Fin.then <| Zs ?_
   refine Zm ?_
   refine Za ?_
   refine Za ?_
   refine Zx <| DC.ret ?_
   refine AK (.inl rfl) rfl rfl rfl ?_
   have hvl : v = rs.length := by simp at c6; omega
   subst hvl
   exact .inl ⟨hok, g26, f, rfl, hd, rfl⟩
/-- A certificate that has a text. -/
def TextOk (pl : Bool) (ls : List (List Int)) (cs : List Pr) : Prop := HasForm pl ls cs ∧ (certB pl ls cs).length ≤ 33554432
theorem Kr {pl : Bool} {N : Int} {ls : List (List Int)} {cs : List Pr} {va v u : Value} {w : World} (hv : LsV w v ls) (hu : PrV w u cs) (hp : Pow w) (hs : ∀ l, l ∈ ls → l.length ≤ 2097152) :
  Calls Tryz.prog 55 #[.agg #[.int .i64 N, va], .agg #[.bool pl, v, u]] w (Ret w [] fun r L => L = [] ∧ ∃ b, r = .bool b ∧ (b = true ↔ TextOk pl ls cs)) := by
 refine At (args := [_, _]) (L := []) Tryz.func55 rfl Tryz.ntmps55 rfl (Own.start _ _) ?_
 refine Zs ?_
 refine Zw (AR rfl rfl rfl) fun g2 => ?_
 refine Zw (AR rfl rfl rfl) fun g3 => ?_
 refine Za ?_
 refine Zx <| Zs ?_
 refine Zu (Aw (vs := [_, _, _]) rfl rfl FO EX rfl (Am rfl)) ?_
 refine Seq.rel0 rfl rfl (Ao en24 rfl rfl rfl (fun w' hw => Ld (hv.keep0 hw) (hu.keep0 hw) (hp.keep0 hw) hs)) ?_
 rintro _ ⟨s, e, rfl, hse⟩
 refine Zm ?_
 refine Ze ?_
 refine Ze ?_
 refine Za ?_
 refine Za ?_
 refine Zx <| Zs ?_
 refine Zm ?_
 refine Zo (AN rfl rfl rfl) ?_
 refine Za ?_
 refine Zx <| DC.ret ?_
 refine Fin.weak (E' := [(4, _)]) ⟨rfl, trivial⟩ .nil ?_
 refine Ak (.inl rfl) rfl rfl ?_
 refine ⟨rfl, _, rfl, ?_⟩
 unfold TextOk
 rcases hse with ⟨rfl, h1, h2, _⟩ | ⟨rfl, h1, _⟩ | ⟨rfl, h1, h2, _⟩
 ·simp [h1, h2]
 ·simp [h1]
 ·simp [h1]; omega
theorem J3 {pl : Bool} {N : Int} {es : List Pr} {ls : List (List Int)} {va v u : Value} {w : World} (hg : PrV w va es) (hv : LsV w v ls) :
  Calls Tryz.prog 56 #[.agg #[.int .i64 N, va], .agg #[.bool pl, v, u]] w (Ret w [] fun r L => L = [] ∧ ∃ b, r = .bool b ∧ (b = true ↔ RotOk N es ls)) := by
 refine At (args := [_, _]) (L := []) Tryz.func56 rfl Tryz.ntmps56 rfl (Own.start _ _) ?_
 refine Zs ?_
 refine Zw (AR rfl rfl rfl) fun g2 => ?_
 refine Zw (AR rfl rfl rfl) fun g3 => ?_
 refine Za ?_
 refine Zx <| Zs ?_
 refine Zu (Aw (vs := [_, _]) rfl rfl Bo Bh rfl (Am rfl)) ?_
 refine Zf Co ?_
 refine Zl Dl ?_
 refine Seq.rel rfl rfl (Ao en94 rfl rfl rfl (fun w' hw => Gs (hg.keep0 hw) (hv.keep0 hw))) ?_
 intro v12 L12 hC12
 obtain ⟨x0, x1, e, rfl, he⟩ : ∃ x0 x1 e, v12 = .tuple #[x0, x1, .int .i64 e] ∧ (e = 0 ↔ RotOk N es ls) := by
  rcases hC12 with ⟨hok, g, rs, rfl, _⟩ | ⟨hno, _, x, e, rfl, hne⟩
  ·exact ⟨_, _, _, rfl, by simp [hok]⟩
  ·exact ⟨_, _, _, rfl, by simp [hno, hne]⟩
 clear hC12
 refine Zm ?_
 refine Ze ?_
 refine Ze ?_
 refine Ze ?_
 refine Za ?_
 refine Za ?_
 refine Za ?_
 refine Zx <| Zs ?_
 refine Zm ?_
 refine Zo (AN rfl rfl rfl) ?_
 refine Za ?_
 refine Zx <| DC.ret ?_
 refine Fin.weak (E' := [(4, _)]) ⟨rfl, trivial⟩ .nil ?_
 refine Ak (.inl rfl) rfl rfl ?_
 exact ⟨rfl, _, rfl, by simpa using he⟩
/-- The numbers of a certificate's edges in a graph. -/
def NumR (es cs : List Pr) (ns : List Int) : Prop := ns.length = cs.length ∧ ∀ (j : Nat) c m, cs[j]? = some c → ns[j]? = some m → (m = -1 ∧ c ∉ es) ∨ ∃ i : Nat, m = i ∧ es[i]? = some c
def NumM (es : List Pr) (i : Nat) (f : Pr → Option Value) : Prop := ∀ p, (f p = none ∧ p ∉ es.take i) ∨ ∃ k : Nat, k < i ∧ es[k]? = some p ∧ f p = some (.int .i64 ((k : Int) + 1))
structure NumbI where
 i : Nat
 m : List (Pr × Value)
structure NumbJ where
 i : Nat
 ns : List Int
theorem Ev {pl : Bool} {N : Int} {es cs : List Pr} {va v u : Value} {w : World} (hg : PrV w va es) (hu : PrV w u cs) :
  Calls Tryz.prog 96 #[.agg #[.int .i64 N, va], .agg #[.bool pl, v, u]] w (Ret w [] fun r M => ∃ g ns, r = .slice (some ⟨g, 0, none⟩) cs.length cs.length ∧ NumR es cs ns ∧ M = [blk g 3 (ints ns).toArray]) := by
 obtain ⟨A, cap, rfl, hr, hlc, hcm, hle⟩ := hg
 obtain ⟨B, capb, rfl, hrb, hlb, hcb, hleb⟩ := hu
 refine At (args := [_, _]) (L := []) Tryz.func96 rfl Tryz.ntmps96 rfl (Own.start _ _) ?_
 refine Zs ?_
 refine Zw (AR rfl rfl rfl) fun g2 => ?_
 refine Zw (AR rfl rfl rfl) fun g3 => ?_
 refine Za ?_
 refine Zx <| Zs ?_
 refine Seq.rel rfl rfl (Dx (enc := encP) rfl) ?_
 rintro _ _ ⟨gm, rfl, rfl⟩
 simp only [List.cons_append, List.nil_append]
 refine Za ?_
 refine Zx <| DC.seq <| Zs ?_
 refine Zf AS ?_
 refine Zl Bj ?_
 refine Zn Tryz.underlying22 ?_
 refine Zm ?_
 refine Zx <| DC.block ?_
 refine DC.loop (ι := NumbI) (fun j => j.i ≤ es.length ∧ NumM es j.i (lkM j.m))
  (fun j => [(3, .pointer (some ⟨g3, 0, none⟩)), (5, .map (some gm)), (13, .slice A es.length cap), (14, .int .i64 es.length), (15, .int .i64 j.i)])
  (fun j => [mpc encP gm j.m, blk g3 27 #[.bool pl, v, .slice B cs.length capb]]) (fun j => es.length - j.i) ⟨0, []⟩ ⟨Nat.zero_le _, fun p => .inl ⟨rfl, by simp⟩⟩ ⟨rfl, rfl, rfl, rfl, rfl, trivial⟩ (.cons 0 rfl (.cons 0 rfl .nil)) ?_
 rintro ⟨i, m⟩ ⟨hi, hm⟩
 dsimp only at hi hm ⊢
 refine Zs ?_
 refine Zc ?_
 refine Zx <| DC.seq ?_
 refine Zd (fun c3 => ?_) fun c3 => ?_
 ·have hlt : i < es.length := by simpa using c3
  obtain ⟨e, he⟩ : ∃ e, es[i]? = some e := ⟨_, List.getElem?_eq_getElem hlt⟩
  obtain ⟨ad, rfl, hU, hVe⟩ := hr.pair he
  refine DC.skip <| Fin.then <| DC.seq <| DC.block <| Zs ?_
  refine Zm ?_
  refine Zo (AE rfl rfl rfl Tryz.underlying22 AW (by omega) (by omega) (by first | exact AC _ _ | exact Bf _ _ _ | rfl)) ?_
  refine Zu (Aw (vs := [_, _]) rfl rfl Cr AW rfl (Ck hU hVe (by simp))) ?_
  refine Zw (AO rfl CK rfl) fun g7 => ?_
  refine Za ?_
  refine Zy (Az (cs' := #[_, _]) rfl rfl rfl AW rfl (Nat.le_of_ble_eq_true rfl) rfl) ?_
  refine Zx <| DC.region ?_
  refine Zm ?_
  refine Zu (Aw (vs := [_, _]) rfl rfl Cr AW rfl (Am rfl)) ?_
  refine Zm ?_
  refine Zp ?_
  refine Zy (B3 (k := e) 1 rfl keyEdge rfl rfl rfl rfl Tryz.underlying196 rfl) ?_
  refine Seq.nil <| Fin.inBlock <| Fin.then <| DC.region ?_
  refine Zp ?_
  refine Zm ?_
  refine Seq.nil ?_
  refine Fin.again ⟨i + 1, putM e (.int .i64 ((i : Int) + 1)) m⟩ (by dsimp only; omega) ⟨by dsimp only; omega, ?_⟩ ⟨rfl, rfl, rfl, rfl, rfl, trivial⟩ (.cons 1 rfl (.cons 1 rfl .nil))
  intro p
  dsimp only
  rw [DQ]
  by_cases hp : p = e
  ·subst hp
   rw [if_pos rfl]
   exact .inr ⟨i, by omega, he, rfl⟩
  ·rw [if_neg hp]
   rcases hm p with ⟨h1, h2⟩ | ⟨k, h1, h2, h3⟩
   ·refine .inl ⟨h1, ?_⟩
    rw [List.take_add_one, he, List.mem_append]
    simp [h2, hp]
   ·exact .inr ⟨k, by omega, h2, h3⟩
 ·refine DC.exit <| Ad <| Ad <| Ag <| Fin.then <| DC.seq ?_
  have hie : i = es.length := by simp at c3; omega
  subst hie
  refine DC.region ?_
  refine Zf BR ?_
  refine Zl Bj ?_
  refine Zn Tryz.underlying22 ?_
  refine Zw (B1 (k := cs.length) (cs := (ints (List.replicate cs.length 0)).toArray) rfl rfl rfl Tryz.underlying44 AL Dp BT rfl (by omega) (by omega) (ID _)) fun g28 => ?_
  refine Za ?_
  refine Zx <| DC.seq <| Zs ?_
  refine Zf BR ?_
  refine Zl Bj ?_
  refine Zn Tryz.underlying22 ?_
  refine Zm ?_
  refine Zx <| DC.block ?_
  refine DC.loop (ι := NumbJ) (fun j => j.i ≤ cs.length ∧ j.ns.length = cs.length ∧ ∀ (q : Nat) c x, q < j.i → cs[q]? = some c → j.ns[q]? = some x → (x = -1 ∧ c ∉ es) ∨ ∃ i : Nat, x = i ∧ es[i]? = some c)
   (fun j => [(5, .map (some gm)), (8, .slice (some ⟨g28, 0, none⟩) cs.length cs.length), (30, .slice B cs.length capb), (31, .int .i64 cs.length), (32, .int .i64 j.i)])
   (fun j => [mpc encP gm m, blk g28 3 (ints j.ns).toArray]) (fun j => cs.length - j.i) ⟨0, List.replicate cs.length 0⟩ ⟨Nat.zero_le _, by simp, fun _ _ _ h => absurd h (Nat.not_lt_zero _)⟩ ⟨rfl, rfl, rfl, rfl, rfl, trivial⟩ (.cons 1 rfl (.cons 0 rfl .nil)) ?_
  rintro ⟨i, ns⟩ ⟨hi2, hns, hn⟩
  dsimp only at hi2 hns hn ⊢
  refine Zs ?_
  refine Zc ?_
  refine Zx <| DC.seq ?_
  refine Zd (fun c9 => ?_) fun c9 => ?_
  ·have hlt : i < cs.length := by simpa using c9
   obtain ⟨c, hc⟩ : ∃ c, cs[i]? = some c := ⟨_, List.getElem?_eq_getElem hlt⟩
   obtain ⟨adb, rfl, hU, hVe⟩ := hrb.pair hc
   refine DC.skip <| Fin.then <| DC.seq <| DC.block <| Zs ?_
   refine Zm ?_
   refine Zo (AE rfl rfl rfl Tryz.underlying22 AW (by omega) (by omega) (by first | exact AC _ _ | exact Bf _ _ _ | rfl)) ?_
   refine Zu (Aw (vs := [_, _]) rfl rfl Cr AW rfl (Ck hU hVe (by simp))) ?_
   refine Zw (AO rfl CK rfl) fun g10 => ?_
   refine Za ?_
   refine Zy (Az (cs' := #[_, _]) rfl rfl rfl AW rfl (Nat.le_of_ble_eq_true rfl) rfl) ?_
   refine Zx <| DC.region ?_
   refine Zm ?_
   refine Zm ?_
   refine Zm ?_
   refine Zu (Aw (vs := [_, _]) rfl rfl Cr AW rfl (Am rfl)) ?_
   obtain ⟨x, hx, hx0, hx1, hxr⟩ : ∃ x : Int, (if false then (.tuple #[(lkM m c).getD (.int .i64 0), .bool (lkM m c).isSome] : Value) else (lkM m c).getD (.int .i64 0)) = .int .i64 x ∧ 0 ≤ x ∧ x ≤ es.length ∧ ((x - 1 = -1 ∧ c ∉ es) ∨ ∃ i : Nat, x - 1 = i ∧ es[i]? = some c) := by
    rcases hm c with ⟨h1, h2⟩ | ⟨k, h1, h2, h3⟩
    ·exact ⟨0, by rw [h1]; rfl, by omega, by omega, .inl ⟨rfl, by simpa using h2⟩⟩
    ·exact ⟨(k : Int) + 1, by rw [h3]; rfl, by omega, by omega, .inr ⟨k, by omega, h2⟩⟩
   refine Zu (CW (k := c) 1 rfl keyEdge rfl rfl rfl Tryz.underlying196 BT hx) ?_
   refine Zo (BA rfl rfl rfl (by omega)) ?_
   refine Zi Tryz.underlying44 AL ?_
   refine Zy (AF (cs' := (ints (ns.set i (x - 1))).toArray) rfl rfl rfl AL rfl (by simp; omega) Eo) ?_
   refine Seq.nil <| Fin.inBlock <| Fin.then <| DC.region ?_
   refine Zp ?_
   refine Zm ?_
   refine Seq.nil ?_
   refine Fin.again ⟨i + 1, ns.set i (x - 1)⟩ (by dsimp only; omega) ⟨by dsimp only; omega, by simp [hns], ?_⟩ ⟨rfl, rfl, rfl, rfl, rfl, trivial⟩ (.cons 1 rfl (.cons 1 rfl .nil))
   intro q c' x' hq hc' hx'
   dsimp only at hq hx'
   rw [List.getElem?_set] at hx'
   split at hx'
   ·rename_i e; subst e
    rw [if_pos (by omega)] at hx'; cases hx'
    rw [hc] at hc'; cases hc'
    exact hxr
   ·exact hn q c' x' (by omega) hc' hx'
  ·refine DC.exit <| Ad <| Ad <| Ag <| Fin.then <| Zs ?_
   refine Zm ?_
   refine Za ?_
   refine Zx <| DC.ret ?_
   have hie : i = cs.length := by simp at c9; omega
   subst hie
   refine Fin.weak (E' := [(4, _)]) ⟨rfl, trivial⟩ (.cons 1 rfl .nil) ?_
   refine Ak (.inl rfl) rfl rfl ?_
   exact ⟨g28, ns, rfl, ⟨hns, fun j c x hj hx => hn j c x (List.getElem?_eq_some_iff.1 hj).1 hj hx⟩, rfl⟩
theorem HC {x : Int} (h : Fits x) : ∃ a : Nat, x = a ∧ a ≤ 1000000000 := by
 obtain ⟨a, ha⟩ := Int.eq_ofNat_of_zero_le h.1
 exact ⟨a, ha, by have := h.2; omega⟩
structure PtI where
 i : Nat
 v : Value
def preL (ls : List (List Int)) (i : Nat) : List UInt8 := headB [112] ls.length ++ ((ls.map lineB).take i).flatten
theorem preL_succ {ls : List (List Int)} {i : Nat} {l : List Int} (h : ls[i]? = some l) : preL ls (i + 1) = preL ls i ++ (Lib.join (l.map Lib.itoa) [32] ++ [10]) := by
 unfold preL
 rw [CH (l := ls.map lineB) (x := lineB l) (by rw [List.getElem?_map, h]; rfl), ← List.append_assoc]; rfl
theorem head_eq (c : UInt8) (n : Nat) : headB [c] n = [c, 32] ++ Lib.itoa (n : Int) ++ [10] := by
 unfold headB lineB
 simp [Lib.join, List.intercalate]
theorem join_take {l : List Int} {k : Nat} {x : Int} (h : l[k]? = some x) : Lib.join ((l.take (k + 1)).map Lib.itoa) [32] = if k = 0 then Lib.itoa x else Lib.join ((l.take k).map Lib.itoa) [32] ++ [32] ++ Lib.itoa x := by
 have hl := (List.getElem?_eq_some_iff.1 h).1
 rw [List.take_add_one, h]
 simp only [Option.toList_some, List.map_append, List.map_cons, List.map_nil]
 rw [IG]
 by_cases h0 : k = 0
 ·subst h0; simp
 ·have : (l.take k).map Lib.itoa ≠ [] := fun e => by
   have := congrArg List.length e
   rw [List.length_map, List.length_take, List.length_nil] at this; omega
  rw [if_neg this, if_neg h0]
theorem Gt {ls : List (List Int)} {cs : List Pr} {v u : Value} {w : World} (hv : LsV w v ls) (hu : PrV w u cs) (hs : ∀ l, l ∈ ls → l.length ≤ 2097152) :
  Calls Tryz.prog 31 #[.agg #[.bool true, v, u]] w (Ret w [] fun r L => L = [] ∧ ∃ s e, r = .tuple #[str s, .int .i64 e] ∧ (e = 0 ↔ TextOk true ls cs)) := by
 have hv0 := hv
 have hu0 := hu
 obtain ⟨Al, cl, rfl, hr, hlc, hcm, hle⟩ := hv
 obtain ⟨Ac, cc, rfl, hrc, hlcc, hcmc, hlec⟩ := hu
 refine At (args := [_]) (L := []) Tryz.func31 rfl Tryz.ntmps31 rfl (Own.start _ _) ?_
 refine Zs ?_
 refine Zw (AR rfl rfl rfl) fun g1 => ?_
 refine Za ?_
 refine Za ?_
 refine Zx <| DC.seq <| Zs ?_
 refine Zf C2 ?_
 refine Zl Id ?_
 refine Zm ?_
 refine Seq.split 10 rfl (fun k1_2 => ?_) (fun k1_2 => ?_)
 ·refine Zf BR ?_
  refine Zl Bj ?_
  refine Zn Tryz.underlying22 ?_
  refine Zo (BC rfl rfl rfl) ?_
  refine Zm ?_
  refine Seq.split 15 rfl (fun k1_7 => ?_) (fun k1_7 => ?_)
  ·refine Zk ?_
   refine Zk ?_
   refine Zk ?_
   refine Zk ?_
   refine Zt ?_
   refine Zt ?_
   refine Zm ?_
   refine Zk ?_
   refine Zk ?_
   refine Zk ?_
   refine Zk ?_
   refine Zk ?_
   refine Zk ?_
   refine Zk ?_
   refine Zk ?_
   refine Zk ?_
   refine Zk ?_
   refine Zk ?_
   refine Zk ?_
   refine Zk ?_
   refine Zk ?_
   refine Zk ?_
   refine Zt ?_
   refine Zx ?_
   refine AM rfl ?_
   refine Zs ?_
   refine Za ?_
   refine Za ?_
   refine Zx <| DC.ret <| Aa ?_
   refine Fin.weak (E' := [(2, str []), (3, .int .i64 170)]) ⟨rfl, rfl, trivial⟩ .nil ?_
   refine AK (.inl rfl) rfl rfl rfl ?_
   refine ⟨rfl, [], 170, rfl, ?_⟩
   simp only [show ¬ ((170 : Int) = 0) by decide, false_iff]
   rintro ⟨⟨h1, _⟩, _⟩
   rw [h1] at k1_7
   simp at k1_7
  ·refine Zf Co ?_
   refine Zl Dl ?_
   refine Seq.rel0 rfl rfl (Ao en60 rfl rfl rfl (fun w' hw => G6 (hv0.keep0 hw))) ?_
   rintro _ ⟨b1, rfl, hb1⟩
   refine Zo (Bg rfl rfl) ?_
   refine Zg ?_
   refine Zt ?_
   refine Zm ?_
   refine Seq.split 22 rfl (fun k1_14 => ?_) (fun k1_14 => ?_)
   ·refine Zk ?_
    refine Zk ?_
    refine Zk ?_
    refine Zk ?_
    refine Zk ?_
    refine Zk ?_
    refine Zk ?_
    refine Zk ?_
    refine Zk ?_
    refine Zk ?_
    refine Zk ?_
    refine Zk ?_
    refine Zk ?_
    refine Zk ?_
    refine Zk ?_
    refine Zt ?_
    refine Zx ?_
    refine AM rfl ?_
    refine Zs ?_
    refine Za ?_
    refine Za ?_
    refine Zx <| DC.ret <| Aa ?_
    refine Fin.weak (E' := [(2, str []), (3, .int .i64 170)]) ⟨rfl, rfl, trivial⟩ .nil ?_
    refine AK (.inl rfl) rfl rfl rfl ?_
    refine ⟨rfl, [], 170, rfl, ?_⟩
    simp only [show ¬ ((170 : Int) = 0) by decide, false_iff]
    rintro ⟨⟨_, h1⟩, _⟩
    rw [hb1.2 h1] at k1_14
    simp at k1_14
   ·refine Zf C2 ?_
    refine Zl Id ?_
    refine Zo (Bg rfl rfl) ?_
    refine Zm ?_
    refine Seq.split 26 rfl (fun k1_18 => ?_) (fun k1_18 => ?_)
    ·cases k1_18
    ·refine Zk ?_
     refine Zk ?_
     refine Zk ?_
     refine Zk ?_
     refine Zk ?_
     refine Zk ?_
     refine Zk ?_
     refine Zk ?_
     refine Zk ?_
     refine Zk ?_
     refine Zg ?_
     refine Zg ?_
     refine Zx ?_
     refine AT rfl ?_
     refine DC.skip <| Fin.then <| DC.seq ?_
     have hcs : cs = [] := by simp at k1_7; exact k1_7
     have hok : ListsOk ls := hb1.1 (by simpa using k1_14)
     have hmany := hok.1
     have hline : ∀ x, x ∈ ls.map lineB → x.length ≤ 44040193 := fun x hx => by
      obtain ⟨l, hl, rfl⟩ := List.mem_map.1 hx
      have h1 := C8 (ns := l) (fun a ha => by have := hok.fits hl ha; unfold I64; unfold Fits at this; omega)
      have := hs l hl
      omega
     have hpre : ∀ i, (preL ls i).length ≤ 50000000000000 := fun i => by
      have h1 := HB (L := (ls.map lineB).take i) (fun x hx => hline x (List.mem_of_mem_take hx))
      have h2 : ((ls.map lineB).take i).length * 44040193 ≤ 1048576 * 44040193 := Nat.mul_le_mul_right _ (by rw [List.length_take, List.length_map]; omega)
      have h3 := C9 (letter := [112]) (n := ls.length) rfl (by omega)
      unfold preL
      rw [List.length_append]; omega
     refine DC.region ?_
     refine Za ?_
     refine Zx ?_
     refine DC.cut (ι := Value) (fun _ => True) (fun v => [(4, v)]) (fun v => [slc v 5 1 (byc (certB true ls cs))]) ?first23 ?rest23
     case first23 =>
      refine Zs ?_
      refine Zf C2 ?_
      refine Zl Id ?_
      refine Zx ?_
      refine Zd (fun c4 => ?_) fun c4 => ?_
      ·refine Zs ?_
       refine Zm ?_
       refine Zw (AP (cs := #[_, _]) rfl rfl Tryz.underlying47 FR GS rfl (by decide) (by decide) rfl rfl) fun g42 => ?_
       refine Seq.gen rfl rfl (AG rfl rfl rfl Tryz.underlying47 FR by5 GS rfl (by decide) (by decide) (news := byc [112, 32]) (k := 2) (fun w hw => Bd (t := 5) (m := 1) (hw.sub (L' := [blk g1 27 #[.bool true, .slice Al ls.length cl, .slice Ac cs.length cc]]) (List.sublist_cons_self ..))) (.inl ⟨_, _, rfl, Am rfl⟩) rfl (Dv _) (by simp)) ?_
       rintro v43 _ rfl
       refine Za ?_
       refine Zx <| Zs ?_
       refine Zm ?_
       refine Zf Co ?_
       refine Zl Dl ?_
       refine Zn Tryz.underlying25 ?_
       refine Seq.rel0 rfl rfl (Ao en62 rfl rfl rfl (fun w' hw => CB (a := ls.length) (by omega))) ?_
       rintro _ rfl
       refine Seq.gen rfl rfl (CF rfl rfl rfl Tryz.underlying47 Tryz.underlying9 FR by5 GS (fun w hw => hw) (by have := Cq (a := (ls.length : Int)) (by omega); simp; omega)) ?_
       rintro v49 _ rfl
       refine Za ?_
       refine Zx <| Zs ?_
       refine Zm ?_
       refine Zw (AP (cs := #[_]) rfl rfl Tryz.underlying47 FR GS rfl (by decide) (by decide) rfl rfl) fun g51 => ?_
       refine Seq.gen rfl rfl (AG rfl rfl rfl Tryz.underlying47 FR by5 GS rfl (by decide) (by decide) (F := [blk g1 27 #[.bool true, .slice Al ls.length cl, .slice Ac cs.length cc]]) (news := byc [10]) (k := 1) (fun w hw => hw.pick (.cons 1 rfl (.cons 1 rfl .nil))) (.inl ⟨_, _, rfl, Am rfl⟩) rfl (Dv _) (by have := Cq (a := (ls.length : Int)) (by omega); simp; omega)) ?_
       rintro v52 _ rfl
       refine Za ?_
       refine Zx <| Zs ?_
       refine Za ?_
       refine Zx <| DC.block ?_
       refine DC.loop (ι := PtI) (fun j => j.i ≤ ls.length) (fun j => [(1, .pointer (some ⟨g1, 0, none⟩)), (4, j.v), (5, .int .i64 j.i)])
        (fun j => [slc j.v 5 1 (byc (preL ls j.i)), blk g1 27 #[.bool true, .slice Al ls.length cl, .slice Ac cs.length cc]]) (fun j => ls.length - j.i) ⟨0, v52⟩ (Nat.zero_le _) ⟨rfl, rfl, rfl, trivial⟩ (.cons' 0 rfl (by dsimp only; unfold preL; rw [head_eq]; simp [byc, Lib.byteCells]) (.cons 0 rfl .nil)) ?_
       rintro ⟨i, v4⟩ hi
       dsimp only at hi ⊢
       refine DC.seq <| Zs ?_
       refine Zm ?_
       refine Zf Co ?_
       refine Zl Dl ?_
       refine Zn Tryz.underlying25 ?_
       refine Zc ?_
       refine Zx ?_
       refine Zd (fun c9 => ?_) fun c9 => ?_
       ·have hlt : i < ls.length := by simpa using c9
        obtain ⟨l, hl⟩ : ∃ l, ls[i]? = some l := ⟨_, List.getElem?_eq_getElem hlt⟩
        have hlm := List.mem_of_getElem? hl
        obtain ⟨ad, lv, rfl, hc, Ax, capl, rfl, hrl, hl1, hl2, hl3⟩ := hr i l hl
        have hsl := hs l hlm
        refine DC.skip <| Fin.then <| DC.seq <| DC.block <| DC.seq <| Zs ?_
        refine Za ?_
        refine Zx <| DC.block ?_
        refine DC.loop (ι := PtI) (fun j => j.i ≤ l.length) (fun j => [(1, .pointer (some ⟨g1, 0, none⟩)), (4, j.v), (5, .int .i64 i), (6, .int .i64 j.i)])
         (fun j => [slc j.v 5 1 (byc (preL ls i ++ Lib.join ((l.take j.i).map Lib.itoa) [32])), blk g1 27 #[.bool true, .slice (some ad) ls.length cl, .slice Ac cs.length cc]]) (fun j => l.length - j.i) ⟨0, v4⟩ (Nat.zero_le _) ⟨rfl, rfl, rfl, rfl, trivial⟩
         (.cons' 0 rfl (by dsimp only; rw [List.take_zero, List.map_nil, join_nil, List.append_nil]) (.cons 0 rfl .nil)) ?_
        rintro ⟨k, v6⟩ hk
        dsimp only at hk ⊢
        have hjl : (Lib.join ((l.take k).map Lib.itoa) [32]).length ≤ 44040193 := by
         have := Fy (k := 20) ((l.take k).map Lib.itoa) (fun x hx => by
          obtain ⟨a, ha, rfl⟩ := List.mem_map.1 hx
          refine Cq ?_
          have := hok.fits hlm (List.mem_of_mem_take ha)
          unfold Fits at this; omega)
         rw [List.length_map, List.length_take] at this; omega
        have hpi := hpre i
        refine DC.seq <| Zs ?_
        refine Zm ?_
        refine Zf Co ?_
        refine Zl Dl ?_
        refine Zm ?_
        refine Zo (Ah (ad' := ad.add i) rfl rfl rfl Tryz.underlying25 Br (by omega) (by omega) rfl) ?_
        refine Zu (Ai rfl rfl Bp (Ar hc)) ?_
        refine Zn Tryz.underlying44 ?_
        refine Zc ?_
        refine Zx ?_
        refine Zd (fun c12 => ?_) fun c12 => ?_
        ·have hkl : k < l.length := by simpa using c12
         obtain ⟨x, hx⟩ : ∃ x, l[k]? = some x := ⟨_, List.getElem?_eq_getElem hkl⟩
         obtain ⟨a, rfl, ha⟩ := HC (hok.fits hlm (List.mem_of_getElem? hx))
         obtain ⟨adl, rfl, hcx⟩ := hrl.int hx
         have hil := Cq (a := (a : Int)) (by omega)
         refine DC.skip <| Fin.then <| DC.seq <| DC.block ?_
         refine DC.cut (ι := Value) (fun _ => True) (fun v => [(1, .pointer (some ⟨g1, 0, none⟩)), (4, v), (5, .int .i64 i), (6, .int .i64 k)])
          (fun v => [slc v 5 1 (byc (preL ls i ++ if k = 0 then [] else Lib.join ((l.take k).map Lib.itoa) [32] ++ [32])), blk g1 27 #[.bool true, .slice (some ad) ls.length cl, .slice Ac cs.length cc]]) ?first15 ?rest15
         case first15 =>
          refine Zs ?_
          refine Zm ?_
          refine Zo (BC rfl rfl rfl) ?_
          refine Zx ?_
          refine Zd (fun c14 => ?_) fun c14 => ?_
          ·refine DC.region ?_
           refine Zm ?_
           refine Zw (AP (cs := #[_]) rfl rfl Tryz.underlying47 FR GS rfl (by decide) (by decide) rfl rfl) fun g73 => ?_
           refine Seq.gen rfl rfl (AG rfl rfl rfl Tryz.underlying47 FR by5 GS rfl (by decide) (by decide) (F := [blk g1 27 #[.bool true, .slice (some ad) ls.length cl, .slice Ac cs.length cc]]) (news := byc [32]) (k := 1) (fun w hw => hw.pick (.cons 1 rfl (.cons 1 rfl .nil))) (.inl ⟨_, _, rfl, Am rfl⟩) rfl (Dv _) (by simp only [byc_len, List.length_append, List.length_cons, List.length_nil]; omega)) ?_
           rintro v74 _ rfl
           refine Za ?_
           refine Seq.nil ?_
           have hk0 : k ≠ 0 := by simp at c14; omega
           refine AJ v74 trivial ⟨rfl, rfl, rfl, rfl, trivial⟩ (.cons' 0 rfl (by rw [if_neg hk0, ← GQ, List.append_assoc]) (.cons 0 rfl .nil))
          ·refine DC.skip ?_
           have hk0 : k = 0 := by simp at c14; omega
           refine AJ v6 trivial ⟨rfl, rfl, rfl, rfl, trivial⟩ (.cons' 0 rfl (by rw [if_pos hk0, hk0]; rfl) (.cons 0 rfl .nil))
         case rest15 =>
          rintro v7 _
          refine DC.region ?_
          refine Zm ?_
          refine Zf Co ?_
          refine Zl Dl ?_
          refine Zm ?_
          refine Zo (Ah (ad' := ad.add i) rfl rfl rfl Tryz.underlying25 Br (by omega) (by omega) rfl) ?_
          refine Zu (Ai rfl rfl Bp (Ar hc)) ?_
          refine Zm ?_
          refine Zo (Ah (ad' := adl.add k) rfl rfl rfl Tryz.underlying44 AL (by omega) (by omega) rfl) ?_
          refine Zu (Ai rfl rfl AI (Ar hcx)) ?_
          refine Seq.rel0 rfl rfl (Ao en62 rfl rfl rfl (fun w' hw => CB ha)) ?_
          rintro _ rfl
          refine Seq.gen rfl rfl (CF rfl rfl rfl Tryz.underlying47 Tryz.underlying9 FR by5 GS (fun w hw => hw) (by
           rw [byc_len, List.length_append]
           split
           ·simp only [List.length_nil]; omega
           ·rw [List.length_append]; simp only [List.length_cons, List.length_nil]; omega)) ?_
          rintro v85 _ rfl
          refine Za ?_
          refine Seq.nil <| Fin.inBlock <| Fin.then <| DC.region ?_
          refine Zm ?_
          refine Zp ?_
          refine Za ?_
          refine Seq.nil ?_
          refine Fin.again ⟨k + 1, v85⟩ (by dsimp only; omega) (by dsimp only; omega) ⟨rfl, rfl, rfl, rfl, trivial⟩ (.cons' 0 rfl ?_ (.cons 0 rfl .nil))
          dsimp only
          rw [join_take hx, ← GQ]
          by_cases hk0 : k = 0
          ·rw [if_pos hk0, if_pos hk0, List.append_nil]
          ·rw [if_neg hk0, if_neg hk0]; simp only [List.append_assoc]
        ·refine DC.exit <| Ad <| Ad <| Ag <| Fin.then <| DC.region ?_
         refine Zm ?_
         refine Zw (AP (cs := #[_]) rfl rfl Tryz.underlying47 FR GS rfl (by decide) (by decide) rfl rfl) fun g87 => ?_
         refine Seq.gen rfl rfl (AG rfl rfl rfl Tryz.underlying47 FR by5 GS rfl (by decide) (by decide) (F := [blk g1 27 #[.bool true, .slice (some ad) ls.length cl, .slice Ac cs.length cc]]) (news := byc [10]) (k := 1) (fun w hw => hw.pick (.cons 1 rfl (.cons 1 rfl .nil))) (.inl ⟨_, _, rfl, Am rfl⟩) rfl (Dv _) (by simp only [byc_len, List.length_append, List.length_cons, List.length_nil]; omega)) ?_
         rintro v88 _ rfl
         refine Za ?_
         refine Seq.nil <| Fin.inBlock <| Fin.then <| DC.region ?_
         refine Zm ?_
         refine Zp ?_
         refine Za ?_
         refine Seq.nil ?_
         have hke : k = l.length := by simp at c12; omega
         subst hke
         refine Fin.again ⟨i + 1, v88⟩ (by dsimp only; omega) (by dsimp only; omega) ⟨rfl, rfl, rfl, trivial⟩ (.cons' 0 rfl (by dsimp only; rw [preL_succ hl, ← GQ, List.take_length, List.append_assoc]) (.cons 0 rfl .nil))
       ·refine DC.exit <| Ad <| Ad <| Ag ?_
        have hie : i = ls.length := by simp at c9; omega
        subst hie
        refine AJ v4 trivial ⟨rfl, trivial⟩ (.cons' 0 rfl (by unfold preL certB textB; rw [if_pos rfl, List.length_map, List.take_of_length_le (by simp)]) .nil)
      ·cases c4
     case rest23 =>
      rintro v4 _
      refine DC.seq <| DC.seq ?_
      refine Ea (i := 0) rfl ?_
      rintro A4 c4' rfl hA4
      have hne : certB true ls cs ≠ [] := by unfold certB textB headB; simp
      obtain ⟨ad4, rfl⟩ := hA4 (fun e => hne (by have := congrArg List.length e; rw [byc_len] at this; exact List.eq_nil_of_length_eq_zero this))
      refine DC.region ?_
      refine Zm ?_
      refine Zn Tryz.underlying47 ?_
      refine Zo (BC rfl rfl rfl) ?_
      refine Zx ?_
      refine Zd (fun c28 => ?_) fun c28 => ?_
      ·refine Zs ?_
       refine Za ?_
       refine Za ?_
       refine Zx <| DC.ret <| Aa ?_
       refine Fin.weak (E' := [(2, str []), (3, .int .i64 10)]) ⟨rfl, rfl, trivial⟩ .nil ?_
       refine AK (.inl rfl) rfl rfl rfl ?_
       refine ⟨rfl, [], 10, rfl, ?_⟩
       simp only [show ¬ ((10 : Int) = 0) by decide, false_iff]
       rintro ⟨_, h1⟩
       rw [byc_len] at c28
       simp at c28; omega
      ·refine DC.skip <| Fin.then <| Zs ?_
       refine Zm ?_
       refine Zu (Ei (l := certB true ls cs) rfl rfl (byc_len _).symm Tryz.underlying47 Tryz.underlying5 Tryz.underlying9 (BD (i := 0) rfl)) ?_
       refine Za ?_
       refine Za ?_
       refine Zx <| DC.ret ?_
       refine Fin.weak (E' := [(2, str (certB true ls cs)), (3, .int .i64 0)]) ⟨rfl, rfl, trivial⟩ .nil ?_
       refine AK (.inl rfl) rfl rfl rfl ?_
       refine ⟨rfl, _, 0, rfl, ?_⟩
       simp only [true_iff]
       rw [byc_len] at c28
       exact ⟨⟨hcs, hok⟩, by simp at c28; omega⟩
 ·cases k1_2
def preE (es : List Pr) (i : Nat) : List UInt8 := headB [110] es.length ++ ((es.map fun e => lineB [e.1, e.2]).take i).flatten
theorem preE_succ {es : List Pr} {i : Nat} {e : Pr} (h : es[i]? = some e) : preE es (i + 1) = preE es i ++ (Lib.itoa e.1 ++ ([32] ++ (Lib.itoa e.2 ++ [10]))) := by
 unfold preE
 rw [CH (l := es.map fun e => lineB [e.1, e.2]) (x := lineB [e.1, e.2]) (by rw [List.getElem?_map, h]; rfl), ← List.append_assoc]
 congr 1
 simp [lineB, Lib.join, List.intercalate, List.intersperse]
theorem Gu {ls : List (List Int)} {cs : List Pr} {v u : Value} {w : World} (hv : LsV w v ls) (hu : PrV w u cs) :
  Calls Tryz.prog 31 #[.agg #[.bool false, v, u]] w (Ret w [] fun r L => L = [] ∧ ∃ s e, r = .tuple #[str s, .int .i64 e] ∧ (e = 0 ↔ TextOk false ls cs)) := by
 have hv0 := hv
 have hu0 := hu
 obtain ⟨Al, cl, rfl, hr, hlc, hcm, hle⟩ := hv
 obtain ⟨Ac, cc, rfl, hrc, hlcc, hcmc, hlec⟩ := hu
 refine At (args := [_]) (L := []) Tryz.func31 rfl Tryz.ntmps31 rfl (Own.start _ _) ?_
 refine Zs ?_
 refine Zw (AR rfl rfl rfl) fun g1 => ?_
 refine Za ?_
 refine Za ?_
 refine Zx <| DC.seq <| Zs ?_
 refine Zf C2 ?_
 refine Zl Id ?_
 refine Zm ?_
 refine Seq.split 10 rfl (fun k1_2 => ?_) (fun k1_2 => ?_)
 ·cases k1_2
 ·refine Zk ?_
  refine Zk ?_
  refine Zk ?_
  refine Zk ?_
  refine Zk ?_
  refine Zk ?_
  refine Zk ?_
  refine Zk ?_
  refine Zk ?_
  refine Zk ?_
  refine Zg ?_
  refine Zm ?_
  refine Zf C2 ?_
  refine Zl Id ?_
  refine Zo (Bg rfl rfl) ?_
  refine Zm ?_
  refine Seq.split 26 rfl (fun k1_18 => ?_) (fun k1_18 => ?_)
  ·refine Zf Co ?_
   refine Zl Dl ?_
   refine Zn Tryz.underlying25 ?_
   refine Zo (BC rfl rfl rfl) ?_
   refine Zm ?_
   refine Seq.split 31 rfl (fun k1_23 => ?_) (fun k1_23 => ?_)
   ·refine Zk ?_
    refine Zk ?_
    refine Zk ?_
    refine Zk ?_
    refine Zt ?_
    refine Zt ?_
    refine Zg ?_
    refine Zx ?_
    refine AM rfl ?_
    refine Zs ?_
    refine Za ?_
    refine Za ?_
    refine Zx <| DC.ret <| Aa ?_
    refine Fin.weak (E' := [(2, str []), (3, .int .i64 170)]) ⟨rfl, rfl, trivial⟩ .nil ?_
    refine AK (.inl rfl) rfl rfl rfl ?_
    refine ⟨rfl, [], 170, rfl, ?_⟩
    simp only [show ¬ ((170 : Int) = 0) by decide, false_iff]
    rintro ⟨⟨h1, _⟩, _⟩
    rw [h1] at k1_23
    simp at k1_23
   ·refine Zf BR ?_
    refine Zl Bj ?_
    refine Seq.rel0 rfl rfl (Ao en61 rfl rfl rfl (fun w' hw => G7 (hu0.keep0 hw))) ?_
    rintro _ ⟨b1, rfl, hb1⟩
    refine Zo (Bg rfl rfl) ?_
    refine Zg ?_
    refine Zt ?_
    refine Zg ?_
    refine Zx ?_
    refine Zd (fun c1 => ?_) fun c1 => ?_
    ·refine Zs ?_
     refine Za ?_
     refine Za ?_
     refine Zx <| DC.ret <| Aa ?_
     refine Fin.weak (E' := [(2, str []), (3, .int .i64 170)]) ⟨rfl, rfl, trivial⟩ .nil ?_
     refine AK (.inl rfl) rfl rfl rfl ?_
     refine ⟨rfl, [], 170, rfl, ?_⟩
     simp only [show ¬ ((170 : Int) = 0) by decide, false_iff]
     rintro ⟨⟨_, h1⟩, _⟩
     rw [hb1.2 h1] at c1
     simp at c1
    ·refine DC.skip <| Fin.then <| DC.seq ?_
     have hcs : ls = [] := by simp at k1_23; exact k1_23
     have hok : EdgesOk cs := hb1.1 (by simpa using c1)
     have hmany := hok.few
     have hline : ∀ x, x ∈ (cs.map fun e => lineB [e.1, e.2]) → x.length ≤ 43 := fun x hx => by
      obtain ⟨e, he, rfl⟩ := List.mem_map.1 hx
      obtain ⟨j, hj⟩ := List.mem_iff_getElem?.1 he
      have h2 := hok.ok j e hj
      have h1 := C8 (ns := [e.1, e.2]) (fun a ha => by simp at ha; unfold I64; unfold Fits at h2; rcases ha with rfl | rfl <;> omega)
      simp at h1; omega
     have hpre : ∀ i, (preE cs i).length ≤ 50000000000000 := fun i => by
      have h1 := HB (L := (cs.map fun e => lineB [e.1, e.2]).take i) (fun x hx => hline x (List.mem_of_mem_take hx))
      have h2 : ((cs.map fun e => lineB [e.1, e.2]).take i).length * 43 ≤ 4194304 * 43 := Nat.mul_le_mul_right _ (by rw [List.length_take, List.length_map]; omega)
      have h3 := C9 (letter := [110]) (n := cs.length) rfl (by omega)
      unfold preE
      rw [List.length_append]; omega
     refine DC.region ?_
     refine Za ?_
     refine Zx ?_
     refine DC.cut (ι := Value) (fun _ => True) (fun v => [(4, v)]) (fun v => [slc v 5 1 (byc (certB false ls cs))]) ?first23 ?rest23
     case first23 =>
      refine Zs ?_
      refine Zf C2 ?_
      refine Zl Id ?_
      refine Zx ?_
      refine Zd (fun c4 => ?_) fun c4 => ?_
      ·cases c4
      ·refine Zs ?_
       refine Zm ?_
       refine Zw (AP (cs := #[_, _]) rfl rfl Tryz.underlying47 FR GS rfl (by decide) (by decide) rfl rfl) fun g90 => ?_
       refine Seq.gen rfl rfl (AG rfl rfl rfl Tryz.underlying47 FR by5 GS rfl (by decide) (by decide) (news := byc [110, 32]) (k := 2) (fun w hw => Bd (t := 5) (m := 1) (hw.sub (L' := [blk g1 27 #[.bool false, .slice Al ls.length cl, .slice Ac cs.length cc]]) (List.sublist_cons_self ..))) (.inl ⟨_, _, rfl, Am rfl⟩) rfl (Dv _) (by simp)) ?_
       rintro v91 _ rfl
       refine Za ?_
       refine Zx <| Zs ?_
       refine Zm ?_
       refine Zf BR ?_
       refine Zl Bj ?_
       refine Zn Tryz.underlying22 ?_
       refine Seq.rel0 rfl rfl (Ao en62 rfl rfl rfl (fun w' hw => CB (a := cs.length) (by omega))) ?_
       rintro _ rfl
       refine Seq.gen rfl rfl (CF rfl rfl rfl Tryz.underlying47 Tryz.underlying9 FR by5 GS (fun w hw => hw) (by have := Cq (a := (cs.length : Int)) (by omega); simp; omega)) ?_
       rintro v97 _ rfl
       refine Za ?_
       refine Zx <| Zs ?_
       refine Zm ?_
       refine Zw (AP (cs := #[_]) rfl rfl Tryz.underlying47 FR GS rfl (by decide) (by decide) rfl rfl) fun g99 => ?_
       refine Seq.gen rfl rfl (AG rfl rfl rfl Tryz.underlying47 FR by5 GS rfl (by decide) (by decide) (F := [blk g1 27 #[.bool false, .slice Al ls.length cl, .slice Ac cs.length cc]]) (news := byc [10]) (k := 1) (fun w hw => hw.pick (.cons 1 rfl (.cons 1 rfl .nil))) (.inl ⟨_, _, rfl, Am rfl⟩) rfl (Dv _) (by have := Cq (a := (cs.length : Int)) (by omega); simp; omega)) ?_
       rintro v100 _ rfl
       refine Za ?_
       refine Zx <| Zs ?_
       refine Za ?_
       refine Zx <| DC.block ?_
       refine DC.loop (ι := PtI) (fun j => j.i ≤ cs.length) (fun j => [(1, .pointer (some ⟨g1, 0, none⟩)), (4, j.v), (7, .int .i64 j.i)])
        (fun j => [slc j.v 5 1 (byc (preE cs j.i)), blk g1 27 #[.bool false, .slice Al ls.length cl, .slice Ac cs.length cc]]) (fun j => cs.length - j.i) ⟨0, v100⟩ (Nat.zero_le _) ⟨rfl, rfl, rfl, trivial⟩ (.cons' 0 rfl (by dsimp only; unfold preE; rw [head_eq]; simp [byc, Lib.byteCells]) (.cons 0 rfl .nil)) ?_
       rintro ⟨i, v4⟩ hi
       dsimp only at hi ⊢
       refine DC.seq <| Zs ?_
       refine Zm ?_
       refine Zf BR ?_
       refine Zl Bj ?_
       refine Zn Tryz.underlying22 ?_
       refine Zc ?_
       refine Zx ?_
       refine Zd (fun c22 => ?_) fun c22 => ?_
       ·have hlt : i < cs.length := by simpa using c22
        obtain ⟨e, he⟩ : ∃ e, cs[i]? = some e := ⟨_, List.getElem?_eq_getElem hlt⟩
        obtain ⟨ad, rfl, hU, hVe⟩ := hrc.pair he
        obtain ⟨hf1, hf2, _⟩ := hok.ok i e he
        obtain ⟨a, ha, ha1⟩ := HC hf1
        obtain ⟨b, hb, hb1'⟩ := HC hf2
        obtain rfl : e = ((a : Int), (b : Int)) := Prod.ext ha hb
        clear ha hb hf1 hf2
        replace hU : w.cell? (ad.add (i * 2)) = some (.int .i64 (a : Int)) := hU
        replace hVe : w.cell? (ad.add (i * 2 + 1)) = some (.int .i64 (b : Int)) := hVe
        have hia := Cq (a := (a : Int)) (by omega)
        have hib := Cq (a := (b : Int)) (by omega)
        have hpi := hpre i
        refine DC.skip <| Fin.then <| DC.seq <| DC.block <| Zs ?_
        refine Zm ?_
        refine Zf BR ?_
        refine Zl Bj ?_
        refine Zm ?_
        refine Zo (AE (ad' := ad.add (i * 2)) rfl rfl rfl Tryz.underlying22 AW (by omega) (by omega) rfl) ?_
        refine Zo (Bk (ad' := ad.add (i * 2)) rfl rfl AZ (by simp [Addr.add])) ?_
        refine Zu (Ai rfl rfl AI (Ar hU)) ?_
        refine Seq.rel0 rfl rfl (Ao en62 rfl rfl rfl (fun w' hw => CB ha1)) ?_
        rintro _ rfl
        refine Seq.gen rfl rfl (CF rfl rfl rfl Tryz.underlying47 Tryz.underlying9 FR by5 GS (fun w hw => hw) (by rw [byc_len]; omega)) ?_
        rintro v116 _ rfl
        refine Za ?_
        refine Zx <| Zs ?_
        refine Zm ?_
        refine Zw (AP (cs := #[_]) rfl rfl Tryz.underlying47 FR GS rfl (by decide) (by decide) rfl rfl) fun g118 => ?_
        refine Seq.gen rfl rfl (AG rfl rfl rfl Tryz.underlying47 FR by5 GS rfl (by decide) (by decide) (F := [blk g1 27 #[.bool false, .slice Al ls.length cl, .slice (some ad) cs.length cc]]) (news := byc [32]) (k := 1) (fun w hw => hw.pick (.cons 1 rfl (.cons 1 rfl .nil))) (.inl ⟨_, _, rfl, Am rfl⟩) rfl (Dv _) (by simp only [byc_len, List.length_append, List.length_cons, List.length_nil]; omega)) ?_
        rintro v119 _ rfl
        refine Za ?_
        refine Zx <| Zs ?_
        refine Zm ?_
        refine Zf BR ?_
        refine Zl Bj ?_
        refine Zm ?_
        refine Zo (AE (ad' := ad.add (i * 2)) rfl rfl rfl Tryz.underlying22 AW (by omega) (by omega) rfl) ?_
        refine Zo (Bk (ad' := ad.add (i * 2 + 1)) rfl rfl Bi (BS _ _ _ (by decide))) ?_
        refine Zu (Ai rfl rfl AI (Ar hVe)) ?_
        refine Seq.rel0 rfl rfl (Ao en62 rfl rfl rfl (fun w' hw => CB hb1')) ?_
        rintro _ rfl
        refine Seq.gen rfl rfl (CF rfl rfl rfl Tryz.underlying47 Tryz.underlying9 FR by5 GS (fun w hw => hw) (by simp only [byc_len, List.length_append, List.length_cons, List.length_nil]; omega)) ?_
        rintro v128 _ rfl
        refine Za ?_
        refine Zx <| DC.region ?_
        refine Zm ?_
        refine Zw (AP (cs := #[_]) rfl rfl Tryz.underlying47 FR GS rfl (by decide) (by decide) rfl rfl) fun g130 => ?_
        refine Seq.gen rfl rfl (AG rfl rfl rfl Tryz.underlying47 FR by5 GS rfl (by decide) (by decide) (F := [blk g1 27 #[.bool false, .slice Al ls.length cl, .slice (some ad) cs.length cc]]) (news := byc [10]) (k := 1) (fun w hw => hw.pick (.cons 1 rfl (.cons 1 rfl .nil))) (.inl ⟨_, _, rfl, Am rfl⟩) rfl (Dv _) (by simp only [byc_len, List.length_append, List.length_cons, List.length_nil]; omega)) ?_
        rintro v131 _ rfl
        refine Za ?_
        refine Seq.nil <| Fin.inBlock <| Fin.then <| DC.region ?_
        refine Zm ?_
        refine Zp ?_
        refine Za ?_
        refine Seq.nil ?_
        refine Fin.again ⟨i + 1, v131⟩ (by dsimp only; omega) (by dsimp only; omega) ⟨rfl, rfl, rfl, trivial⟩ (.cons' 0 rfl (by dsimp only; rw [preE_succ he]; simp only [GQ, List.append_assoc]) (.cons 0 rfl .nil))
       ·refine DC.exit <| Ad <| Ad <| Ag ?_
        have hie : i = cs.length := by simp at c22; omega
        subst hie
        refine AJ v4 trivial ⟨rfl, trivial⟩ (.cons' 0 rfl (by unfold preE certB textB; rw [if_neg (by simp), List.length_map, List.take_of_length_le (by simp)]) .nil)
     case rest23 =>
      rintro v4 _
      refine DC.seq <| DC.seq ?_
      refine Ea (i := 0) rfl ?_
      rintro A4 c4' rfl hA4
      have hne : certB false ls cs ≠ [] := by unfold certB textB headB; simp
      obtain ⟨ad4, rfl⟩ := hA4 (fun e => hne (by have := congrArg List.length e; rw [byc_len] at this; exact List.eq_nil_of_length_eq_zero this))
      refine DC.region ?_
      refine Zm ?_
      refine Zn Tryz.underlying47 ?_
      refine Zo (BC rfl rfl rfl) ?_
      refine Zx ?_
      refine Zd (fun c28 => ?_) fun c28 => ?_
      ·refine Zs ?_
       refine Za ?_
       refine Za ?_
       refine Zx <| DC.ret <| Aa ?_
       refine Fin.weak (E' := [(2, str []), (3, .int .i64 10)]) ⟨rfl, rfl, trivial⟩ .nil ?_
       refine AK (.inl rfl) rfl rfl rfl ?_
       refine ⟨rfl, [], 10, rfl, ?_⟩
       simp only [show ¬ ((10 : Int) = 0) by decide, false_iff]
       rintro ⟨_, h1⟩
       rw [byc_len] at c28
       simp at c28; omega
      ·refine DC.skip <| Fin.then <| Zs ?_
       refine Zm ?_
       refine Zu (Ei (l := certB false ls cs) rfl rfl (byc_len _).symm Tryz.underlying47 Tryz.underlying5 Tryz.underlying9 (BD (i := 0) rfl)) ?_
       refine Za ?_
       refine Za ?_
       refine Zx <| DC.ret ?_
       refine Fin.weak (E' := [(2, str (certB false ls cs)), (3, .int .i64 0)]) ⟨rfl, rfl, trivial⟩ .nil ?_
       refine AK (.inl rfl) rfl rfl rfl ?_
       refine ⟨rfl, _, 0, rfl, ?_⟩
       simp only [true_iff]
       rw [byc_len] at c28
       exact ⟨⟨hcs, hok⟩, by simp at c28; omega⟩
  ·cases k1_18
theorem G8 {pl : Bool} {ls : List (List Int)} {cs : List Pr} {v u : Value} {w : World} (hv : LsV w v ls) (hu : PrV w u cs) (hs : ∀ l, l ∈ ls → l.length ≤ 2097152) :
  Calls Tryz.prog 31 #[.agg #[.bool pl, v, u]] w (Ret w [] fun r L => L = [] ∧ ∃ s e, r = .tuple #[str s, .int .i64 e] ∧ (e = 0 ↔ TextOk pl ls cs)) := by
 cases pl
 ·exact Gu hv hu
 ·exact Gt hv hu hs
end Go.Fl

namespace Go.Fl
open Go
open Classical
def VH (es : List Pr) (h : Int) : Prop := 0 ≤ h ∧ h < es.length * 2
def degV (es : List Pr) (v : Int) : Nat := (outs es v).length
/-- The half-edge by which one goes on behind h. -/
def nxtH (es : List Pr) (h : Int) : Int :=
 if ((outs es (toV es h))[0]?).getD (-1) = tw h then ((outs es (toV es h))[1]?).getD (-1) else ((outs es (toV es h))[0]?).getD (-1)
def contH (es : List Pr) (b h : Int) : Prop := degV es (toV es h) = 2 ∧ toV es h ≠ b
def wI (es : List Pr) (h : Int) : Nat → Int
 | 0 => h
 | k + 1 => nxtH es (wI es h k)
structure Way (es : List Pr) (h : Int) (t : Nat) : Prop where
 vh : VH es h
 cont : ∀ i, i < t → contH es (fromV es h) (wI es h i)
def wayL (es : List Pr) (h : Int) (t : Nat) : List Int := (List.range (t + 1)).map (wI es h)
structure Stops (es : List Pr) (h : Int) (t : Nat) : Prop where
 way : Way es h t
 stop : ¬ contH es (fromV es h) (wI es h t)
section
variable {N : Int} {es : List Pr} {h k : Int}
theorem IA : ∀ {a b : List Int}, a.Nodup → (∀ x, x ∈ a → x ∈ b) → a.length ≤ b.length
 | [], b, _, _ => by simp
 | x :: r, b, hn, hs => by
  rw [List.nodup_cons] at hn
  have hx : x ∈ b := hs x (by simp)
  have ih := IA (a := r) (b := b.erase x) hn.2 (fun y hy => (List.mem_erase_of_ne (fun e => hn.1 (by rw [← e]; exact hy))).2 (hs y (by simp [hy])))
  have := List.length_erase_of_mem hx
  have := List.length_pos_of_mem hx
  simp only [List.length_cons]; omega
theorem VH.tw (hh : VH es h) : VH es (tw h) := GV hh.1 hh.2
theorem tw_ne (h : Int) : tw h ≠ h := by unfold tw; split <;> omega
theorem tw_inj {h k : Int} (e : tw h = tw k) : h = k := by rw [← J2 h, e, J2]
theorem CG (hh : VH es h) : fromV es (tw h) = toV es h := by unfold toV; rw [if_pos hh.1]
theorem Ii (hh : VH es h) : toV es (tw h) = fromV es h := by unfold toV; rw [if_pos hh.tw.1, J2]
theorem LN (v : Int) : (outs es v).Nodup := by
 have := (C7 es 0 v).1
 exact this.imp fun h => by omega
theorem Cp (hV : Vld N es) (hh : VH es h) (hd : degV es (toV es h) = 2) :
  VH es (nxtH es h) ∧ fromV es (nxtH es h) = toV es h ∧ nxtH es h ≠ tw h ∧ nxtH es h ∈ outs es (toV es h) ∧ ∀ y, y ∈ outs es (toV es h) → y = nxtH es h ∨ y = tw h := by
 have hm : tw h ∈ outs es (toV es h) := (Bl hV).2 ⟨hh.tw.1, hh.tw.2, CG hh⟩
 have hn := LN (es := es) (toV es h)
 unfold degV at hd
 match ho : outs es (toV es h), hd with
 | [a, b], _ =>
  rw [ho] at hm hn
  have hab : a ≠ b := by
   rw [List.nodup_cons] at hn
   intro e; exact hn.1 (by simp [e])
  have key : nxtH es h = if a = tw h then b else a := by unfold nxtH; rw [ho]; rfl
  have hmem : ∀ x, x ∈ [a, b] → VH es x ∧ fromV es x = toV es h := fun x hx => by
   rw [← ho] at hx
   obtain ⟨h1, h2, h3⟩ := (Bl hV).1 hx
   exact ⟨⟨h1, h2⟩, h3⟩
  rw [key]
  by_cases e : a = tw h
  ·rw [if_pos e]
   obtain ⟨q1, q2⟩ := hmem b (by simp)
   refine ⟨q1, q2, by rw [← e]; exact hab.symm, by simp, fun y hy => ?_⟩
   simp at hy
   rcases hy with rfl | rfl
   ·exact .inr e
   ·exact .inl rfl
  ·rw [if_neg e]
   obtain ⟨q1, q2⟩ := hmem a (by simp)
   have hb : b = tw h := by
    simp at hm
    rcases hm with rfl | rfl
    ·exact absurd rfl e
    ·rfl
   refine ⟨q1, q2, e, by simp, fun y hy => ?_⟩
   simp at hy
   rcases hy with rfl | rfl
   ·exact .inl rfl
   ·exact .inr hb
theorem nxt_inj (hV : Vld N es) (hh : VH es h) (hk : VH es k) (hd : degV es (toV es h) = 2) (hd' : degV es (toV es k) = 2) (e : nxtH es h = nxtH es k) : h = k := by
 obtain ⟨a1, a2, a3, a4, a5⟩ := Cp hV hh hd
 obtain ⟨b1, b2, b3, b4, b5⟩ := Cp hV hk hd'
 have hto : toV es h = toV es k := by rw [← a2, e, b2]
 have hm : tw h ∈ outs es (toV es k) := by rw [← hto]; exact (Bl hV).2 ⟨hh.tw.1, hh.tw.2, CG hh⟩
 rcases b5 _ hm with h1 | h1
 ·exact absurd (e.trans h1.symm) a3
 ·exact tw_inj h1
section
variable {t : Nat}
theorem Way.le {s : Nat} (hw : Way es h t) (hs : s ≤ t) : Way es h s := ⟨hw.vh, fun i hi => hw.cont i (by omega)⟩
theorem Way.all (hV : Vld N es) (hw : Way es h t) : ∀ i, i ≤ t → VH es (wI es h i)
 | 0, _ => hw.vh
 | i + 1, hi => (Cp hV (hw.all hV i (by omega)) (hw.cont i (by omega)).1).1
theorem Way.link (hV : Vld N es) (hw : Way es h t) {i : Nat} (hi : i < t) : fromV es (wI es h (i + 1)) = toV es (wI es h i) :=
 (Cp hV (hw.all hV i (by omega)) (hw.cont i hi).1).2.1
theorem Way.ne (hV : Vld N es) (hw : Way es h t) : ∀ i j, i < j → j ≤ t → wI es h i ≠ wI es h j
 | 0, j + 1, _, hj => fun e => by
  have h1 := hw.link hV (i := j) (by omega)
  rw [← e] at h1
  exact (hw.cont j (by omega)).2 h1.symm
 | i + 1, j + 1, hij, hj => fun e =>
  hw.ne hV i j (by omega) (by omega) (nxt_inj hV (hw.all hV i (by omega)) (hw.all hV j (by omega)) (hw.cont i (by omega)).1 (hw.cont j (by omega)).1 e)
theorem Way.lt (hV : Vld N es) (hw : Way es h t) : t < es.length * 2 := by
 have hnd : (wayL es h t).Nodup := by
  unfold wayL List.Nodup
  rw [List.pairwise_map, List.pairwise_iff_getElem]
  intro i j hi hj hij
  simp only [List.length_range] at hi hj
  simp only [List.getElem_range]
  exact hw.ne hV i j hij (by omega)
 have := IA (b := (List.range (es.length * 2)).map fun (x : Nat) => (x : Int)) hnd fun x hx => by
  obtain ⟨i, hi, rfl⟩ := List.mem_map.1 hx
  have h1 := hw.all hV i (by have := List.mem_range.1 hi; omega)
  obtain ⟨h2, h3⟩ := h1
  exact List.mem_map.2 ⟨(wI es h i).toNat, List.mem_range.2 (by omega), by omega⟩
 simp [wayL] at this; omega
theorem Way.ne_tw' (hV : Vld N es) (hw : Way es h t) : ∀ d a, a + d ≤ t → wI es h (a + d) ≠ tw (wI es h a)
 | 0, a, _ => fun e => tw_ne _ e.symm
 | 1, a, hb => (Cp hV (hw.all hV a (by omega)) (hw.cont a (by omega)).1).2.2.1
 | d + 2, a, hb => fun e => by
  have ha := hw.all hV a (by omega)
  have hb' := hw.all hV (a + d + 1) (by omega)
  obtain ⟨a1, a2, a3, a4, a5⟩ := Cp hV ha (hw.cont a (by omega)).1
  have h1 := hw.link hV (i := a + d + 1) (by omega)
  rw [show a + d + 1 + 1 = a + (d + 2) by omega, e, CG ha] at h1
  have hm : tw (wI es h (a + d + 1)) ∈ outs es (toV es (wI es h a)) := by rw [h1]; exact (Bl hV).2 ⟨hb'.tw.1, hb'.tw.2, CG hb'⟩
  rcases a5 _ hm with h2 | h2
  ·refine hw.ne_tw' hV d (a + 1) (by omega) ?_
   rw [show a + 1 + d = a + d + 1 by omega]
   show _ = tw (nxtH es (wI es h a))
   rw [← h2, J2]
  ·exact hw.ne hV a (a + d + 1) (by omega) (by omega) (tw_inj h2).symm
theorem Way.ne_tw (hV : Vld N es) (hw : Way es h t) {a b : Nat} (ha : a ≤ t) (hb : b ≤ t) : wI es h a ≠ tw (wI es h b) := by
 rcases Nat.le_total b a with h1 | h1
 ·have := hw.ne_tw' hV (a - b) b (by omega)
  rw [show b + (a - b) = a by omega] at this; exact this
 ·intro e
  have := hw.ne_tw' hV (b - a) a (by omega)
  rw [show a + (b - a) = b by omega] at this
  exact this (by rw [e, J2])
theorem Stops.uniq {s : Nat} (h1 : Stops es h t) (h2 : Stops es h s) : t = s := by
 rcases Nat.lt_trichotomy t s with c | c | c
 ·exact absurd (h2.way.cont t c) h1.stop
 ·exact c
 ·exact absurd (h1.way.cont s c) h2.stop
theorem stops_ex (hV : Vld N es) (hh : VH es h) : ∃ t, Stops es h t := by
 apply Classical.byContradiction
 intro hno
 have : ∀ t, Way es h t := by
  intro t
  induction t with
  | zero => exact ⟨hh, fun i hi => absurd hi (Nat.not_lt_zero _)⟩
  | succ t ih =>
   refine ⟨hh, fun i hi => ?_⟩
   rcases Nat.lt_succ_iff_lt_or_eq.1 hi with h1 | rfl
   ·exact ih.cont i h1
   ·apply Classical.byContradiction
    intro hc
    exact hno ⟨i, ih, hc⟩
 have := (this (es.length * 2)).lt hV
 omega
end
/-- How far the way from a half-edge goes. -/
noncomputable def wayT (es : List Pr) (h : Int) : Nat := if e : ∃ t, Stops es h t then e.choose else 0
noncomputable def wayOf (es : List Pr) (h : Int) : List Int := wayL es h (wayT es h)
theorem Bx (hV : Vld N es) (hh : VH es h) : Stops es h (wayT es h) := by
 have e := stops_ex hV hh
 unfold wayT
 rw [dif_pos e]
 exact e.choose_spec
theorem Gy {t : Nat} (hs : Stops es h t) : wayT es h = t := by
 have e : ∃ t, Stops es h t := ⟨t, hs⟩
 unfold wayT
 rw [dif_pos e]
 exact e.choose_spec.uniq hs
/-! ### lists of half-edges that hang together -/
def Link (es : List Pr) (l : List Int) : Prop := ∀ (i : Nat) x y, l[i]? = some x → l[i + 1]? = some y → fromV es y = toV es x
def AllH (es : List Pr) (l : List Int) : Prop := ∀ x, x ∈ l → VH es x
def aboutL (l : List Int) : List Int := l.reverse.map tw
theorem Cz (h : Int) (t : Nat) : (wayL es h t).length = t + 1 := by simp [wayL]
theorem Dd {t i : Nat} (hi : i ≤ t) : (wayL es h t)[i]? = some (wI es h i) := by simp [wayL, show i < t + 1 by omega]
theorem FU (h : Int) (t : Nat) : wayL es h (t + 1) = wayL es h t ++ [nxtH es (wI es h t)] := by unfold wayL; rw [List.range_succ, List.map_append]; rfl
theorem JZ (hV : Vld N es) {t : Nat} (hw : Way es h t) : Link es (wayL es h t) := by
 intro i x y hx hy
 have hi : i + 1 < t + 1 := by have := (List.getElem?_eq_some_iff.1 hy).1; rwa [Cz] at this
 rw [Dd (by omega)] at hx hy
 cases hx; cases hy
 exact hw.link hV (by omega)
theorem DL (hV : Vld N es) {t : Nat} (hw : Way es h t) : AllH es (wayL es h t) := by
 intro x hx
 obtain ⟨i, hi, rfl⟩ := List.mem_map.1 hx
 exact hw.all hV i (by have := List.mem_range.1 hi; omega)
theorem Gh {l : List Int} (hl : AllH es l) : AllH es (aboutL l) := by
 intro x hx
 obtain ⟨y, hy, rfl⟩ := List.mem_map.1 hx
 exact (hl y (List.mem_reverse.1 hy)).tw
theorem BE (l : List Int) : (aboutL l).length = l.length := by simp [aboutL]
theorem Db {l : List Int} {i : Nat} (hi : i < l.length) : (aboutL l)[i]? = (l[l.length - 1 - i]?).map tw := by
 unfold aboutL
 rw [List.getElem?_map, List.getElem?_reverse hi]
theorem about_link {l : List Int} (ha : AllH es l) (hl : Link es l) : Link es (aboutL l) := by
 intro i x y hx hy
 have hi : i + 1 < l.length := by have := (List.getElem?_eq_some_iff.1 hy).1; rwa [BE] at this
 rw [Db (by omega)] at hx
 rw [Db hi] at hy
 obtain ⟨x', hx', rfl⟩ := Option.map_eq_some_iff.1 hx
 obtain ⟨y', hy', rfl⟩ := Option.map_eq_some_iff.1 hy
 have := hl (l.length - 1 - (i + 1)) y' x' hy' (by rw [← hx']; congr 1; omega)
 rw [CG (ha _ (List.mem_of_getElem? hy')), Ii (ha _ (List.mem_of_getElem? hx')), this]
theorem Kx {a b : List Int} (ha : Link es a) (hb : Link es b) (hj : ∀ x y, a.getLast? = some x → b.head? = some y → fromV es y = toV es x) : Link es (a ++ b) := by
 intro i x y hx hy
 by_cases h1 : i + 1 < a.length
 ·rw [List.getElem?_append_left (by omega)] at hx
  rw [List.getElem?_append_left h1] at hy
  exact ha i x y hx hy
 ·by_cases h2 : i < a.length
  ·rw [List.getElem?_append_left h2] at hx
   rw [List.getElem?_append_right (by omega), show i + 1 - a.length = 0 by omega] at hy
   refine hj x y ?_ (by rw [List.head?_eq_getElem?]; exact hy)
   rw [List.getLast?_eq_getElem?, show a.length - 1 = i by omega]; exact hx
  ·rw [List.getElem?_append_right (by omega)] at hx hy
   rw [show i + 1 - a.length = i - a.length + 1 by omega] at hy
   exact hb _ x y hx hy
theorem link_drop {a : List Int} (ha : Link es a) (k : Nat) : Link es (a.drop k) := by
 intro i x y hx hy
 rw [List.getElem?_drop] at hx hy
 exact ha (k + i) x y hx (by rw [← hy]; congr 1)
/-! ### chains -/
/-- The way round from an edge comes back to it, through vertices of degree 2 alone. -/
def FreeC (es : List Pr) (e : Nat) : Prop := toV es (wI es (2 * e) (wayT es (2 * e))) = fromV es (2 * (e : Int)) ∧ degV es (fromV es (2 * (e : Int))) = 2
noncomputable def chainOf (es : List Pr) (e : Nat) : List Int :=
 if FreeC es e then wayOf es (2 * e) else aboutL (wayOf es (2 * e + 1)).tail ++ wayOf es (2 * e)
theorem Cs {e : Nat} (he : e < es.length) : VH es (2 * (e : Int)) := ⟨by omega, by omega⟩
theorem C0 {e : Nat} (he : e < es.length) : VH es (2 * (e : Int) + 1) := ⟨by omega, by omega⟩
theorem Fc (e : Nat) : tw (2 * (e : Int)) = 2 * (e : Int) + 1 := by unfold tw; rw [if_pos (by omega)]
theorem Dc (h : Int) : wayOf es h ≠ [] := by
 intro e
 have := congrArg List.length e
 simp [wayOf, Cz] at this
theorem DM (h : Int) : (wayOf es h)[0]? = some h := by unfold wayOf; rw [Dd (by omega)]; rfl
theorem EW (h : Int) : (wayOf es h).getLast? = some (wI es h (wayT es h)) := by
 rw [List.getLast?_eq_getElem?]
 unfold wayOf
 rw [Cz, Dd (by omega)]; rfl
theorem IT (hV : Vld N es) {e : Nat} (he : e < es.length) : AllH es (chainOf es e) := by
 have h1 := DL hV (Bx hV (Cs he)).way
 have h2 := DL hV (Bx hV (C0 he)).way
 unfold chainOf
 split
 ·exact h1
 ·intro x hx
  rcases List.mem_append.1 hx with hx | hx
  ·exact Gh (fun y hy => h2 y (List.mem_of_mem_tail hy)) x hx
  ·exact h1 x hx
theorem chain_link (hV : Vld N es) {e : Nat} (he : e < es.length) : Link es (chainOf es e) := by
 have h1 := JZ hV (Bx hV (Cs he)).way
 have h2 := JZ hV (Bx hV (C0 he)).way
 have a2 := DL hV (Bx hV (C0 he)).way
 unfold chainOf
 split
 ·exact h1
 ·have a3 : AllH es (wayOf es (2 * e + 1)).tail := fun y hy => a2 y (List.mem_of_mem_tail hy)
  have h3 : Link es (wayOf es (2 * e + 1)).tail := by rw [← List.drop_one]; exact link_drop h2 1
  refine Kx (about_link a3 h3) h1 fun x y hx hy => ?_
  rw [List.head?_eq_getElem?, DM] at hy
  cases hy
  rw [List.getLast?_eq_getElem?, BE] at hx
  have hpos : 0 < (wayOf es (2 * e + 1)).tail.length := by
   apply Nat.pos_of_ne_zero
   intro h0
   rw [h0] at hx
   have := (List.getElem?_eq_some_iff.1 hx).1
   rw [BE, h0] at this
   omega
  rw [Db (by omega), show (wayOf es (2 * e + 1)).tail.length - 1 - ((wayOf es (2 * e + 1)).tail.length - 1) = 0 by omega] at hx
  obtain ⟨z, hz, rfl⟩ := Option.map_eq_some_iff.1 hx
  rw [Ii (a3 _ (List.mem_of_getElem? hz))]
  have hz' : (wayOf es (2 * e + 1))[1]? = some z := by rw [List.getElem?_tail] at hz; exact hz
  have := h2 0 _ z (DM _) hz'
  rw [this, ← Fc, Ii (Cs he)]
theorem FK (e : Nat) : chainOf es e ≠ [] := by
 unfold chainOf
 split
 ·exact Dc _
 ·intro h; exact Dc _ (List.append_eq_nil_iff.1 h).2
theorem chain_last (e : Nat) : (chainOf es e).getLast? = some (wI es (2 * e) (wayT es (2 * e))) := by
 unfold chainOf
 split
 ·exact EW _
 ·rw [List.getLast?_append, EW]; rfl
/-- The ends of the chain on which an edge lies. -/
noncomputable def endA (es : List Pr) (e : Nat) : Int := fromV es (((chainOf es e)[0]?).getD (-1))
noncomputable def endB (es : List Pr) (e : Nat) : Int := toV es (wI es (2 * e) (wayT es (2 * e)))
theorem DK (hV : Vld N es) (hh : VH es h) : (wayOf es h).length ≤ es.length * 2 := by
 have := (Bx hV hh).way.lt hV
 unfold wayOf
 rw [Cz]; omega
theorem chain_len (hV : Vld N es) {e : Nat} (he : e < es.length) : (chainOf es e).length ≤ es.length * 4 := by
 have h1 := DK hV (Cs he)
 have h2 := DK hV (C0 he)
 unfold chainOf
 split
 ·omega
 ·rw [List.length_append, BE, List.length_tail]; omega
theorem IO {e : Nat} (hf : FreeC es e) : endA es e = endB es e := by
 unfold endA endB chainOf
 rw [if_pos hf, DM]
 exact hf.1.symm
theorem endA_open (hV : Vld N es) {e : Nat} (he : e < es.length) (hf : ¬ FreeC es e) : endA es e = toV es (wI es (2 * e + 1) (wayT es (2 * e + 1))) := by
 unfold endA chainOf
 rw [if_neg hf]
 have hst := Bx hV (C0 he)
 have ha := DL hV hst.way
 have hlen : (wayOf es (2 * e + 1)).length = wayT es (2 * e + 1) + 1 := Cz _ _
 by_cases h0 : wayT es (2 * e + 1) = 0
 ·have : (wayOf es (2 * e + 1)).tail = [] := by
   apply List.eq_nil_of_length_eq_zero
   rw [List.length_tail, hlen, h0]
  rw [this]
  show fromV es ((([] : List Int) ++ wayOf es (2 * e))[0]?.getD (-1)) = _
  rw [List.nil_append, DM, h0]
  show fromV es (2 * (e : Int)) = toV es (2 * (e : Int) + 1)
  rw [← Fc, Ii (Cs he)]
 ·rw [List.getElem?_append_left (by rw [BE, List.length_tail, hlen]; omega), Db (by rw [List.length_tail, hlen]; omega), List.length_tail, hlen, List.getElem?_tail]
  have : (wayOf es (2 * e + 1))[wayT es (2 * e + 1) + 1 - 1 - 1 - 0 + 1]? = some (wI es (2 * e + 1) (wayT es (2 * e + 1))) := by
   rw [show wayT es (2 * e + 1) + 1 - 1 - 1 - 0 + 1 = wayT es (2 * e + 1) by omega]
   exact Dd (by omega)
  rw [this]
  exact CG (hst.way.all hV _ (by omega))
/-- Which edges the chains are taken from: those that lie on no chain yet. -/
noncomputable def selU (es : List Pr) : Nat → List Nat
 | 0 => []
 | k + 1 => if ∃ e, e ∈ selU es k ∧ ∃ x, x ∈ chainOf es e ∧ x / 2 = k then selU es k else selU es k ++ [k]
theorem Ek : ∀ (k : Nat), (selU es k).length ≤ k
 | 0 => by simp [selU]
 | k + 1 => by
  have := Ek k
  unfold selU
  split
  ·omega
  ·simp; omega
end
end Go.Fl

namespace Go.Fl
open Go
open Classical
def srt (a b : Int) : Pr := (min a b, max a b)
/-- The ends of the chains. -/
noncomputable def endsU (es : List Pr) (k : Nat) : List Pr := (selU es k).map fun e => srt (endA es e) (endB es e)
def brV (es : List Pr) (n : Nat) : List Int := ((List.range n).filter fun (v : Nat) => decide (degV es (v : Int) ≠ 0 ∧ degV es (v : Int) ≠ 2)).map fun (v : Nat) => (v : Int)
def pairsOf : List Int → List Pr
 | [] => []
 | x :: r => r.map (srt x) ++ pairsOf r
def crossOf (S : List Int) : List Pr := (S.take 3).flatMap fun x => (S.drop 3).map (srt x)
/-- The least and those that are not joined to it, then the others. -/
def sidesOf (E : List Pr) (B : List Int) : List Int := (B.filter fun v => decide (srt (B.headD 0) v ∉ E)) ++ B.filter fun v => decide (srt (B.headD 0) v ∈ E)
/-- The reference's: the least itself is ahead. -/
def sidesR (E : List Pr) (B : List Int) : List Int := (B.filter fun v => decide (v = B.headD 0 ∨ srt (B.headD 0) v ∉ E)) ++ B.filter fun v => decide (v ≠ B.headD 0 ∧ srt (B.headD 0) v ∈ E)
def GoodE (E : List Pr) : Prop := E.Nodup ∧ ∀ p, p ∈ E → p.1 ≠ p.2
theorem CY : ∀ {B : List Int} {q : Pr}, q ∈ pairsOf B ↔ ∃ (i j : Nat) (x y : Int), i < j ∧ B[i]? = some x ∧ B[j]? = some y ∧ q = srt x y
 | [], q => by simp [pairsOf]
 | x :: r, q => by
  unfold pairsOf
  rw [List.mem_append, CY, List.mem_map]
  constructor
  ·rintro (⟨y, hy, rfl⟩ | ⟨i, j, a, b, hij, ha, hb, rfl⟩)
   ·obtain ⟨j, hj⟩ := List.mem_iff_getElem?.1 hy
    exact ⟨0, j + 1, x, y, by omega, rfl, by simpa using hj, rfl⟩
   ·exact ⟨i + 1, j + 1, a, b, by omega, by simpa using ha, by simpa using hb, rfl⟩
  ·rintro ⟨i, j, a, b, hij, ha, hb, rfl⟩
   match i, j with
   | 0, j + 1 =>
    left
    simp at ha hb
    subst ha
    exact ⟨b, List.mem_of_getElem? hb, rfl⟩
   | i + 1, j + 1 =>
    right
    exact ⟨i, j, a, b, by omega, by simpa using ha, by simpa using hb, rfl⟩
theorem Dr {S : List Int} {q : Pr} : q ∈ crossOf S ↔ ∃ (i j : Nat) (x y : Int), i < 3 ∧ 3 ≤ j ∧ S[i]? = some x ∧ S[j]? = some y ∧ q = srt x y := by
 unfold crossOf
 rw [List.mem_flatMap]
 constructor
 ·rintro ⟨x, hx, hq⟩
  obtain ⟨y, hy, rfl⟩ := List.mem_map.1 hq
  obtain ⟨i, hi⟩ := List.mem_iff_getElem?.1 hx
  obtain ⟨j, hj⟩ := List.mem_iff_getElem?.1 hy
  rw [List.getElem?_take] at hi
  rw [List.getElem?_drop] at hj
  split at hi
  ·exact ⟨i, 3 + j, x, y, by omega, by omega, hi, hj, rfl⟩
  ·cases hi
 ·rintro ⟨i, j, x, y, hi, hj, hx, hy, rfl⟩
  refine ⟨x, List.mem_iff_getElem?.2 ⟨i, by rw [List.getElem?_take, if_pos hi]; exact hx⟩, List.mem_map.2 ⟨y, List.mem_iff_getElem?.2 ⟨j - 3, ?_⟩, rfl⟩⟩
  rw [List.getElem?_drop, show 3 + (j - 3) = j by omega]; exact hy
theorem srt_inj {a b c d : Int} (h : srt a b = srt c d) : (a = c ∧ b = d) ∨ (a = d ∧ b = c) := by
 unfold srt at h
 have h1 := congrArg Prod.fst h
 have h2 := congrArg Prod.snd h
 simp only at h1 h2
 omega
theorem nodup5 {a b c d e : Int} (hn : [a, b, c, d, e].Nodup) : (pairsOf [a, b, c, d, e]).Nodup ∧ (pairsOf [a, b, c, d, e]).length = 10 ∧ ∀ p, p ∈ pairsOf [a, b, c, d, e] → p.1 ≠ p.2 := by
 simp only [List.nodup_cons, List.mem_cons, List.not_mem_nil, or_false, not_or] at hn
 refine ⟨?_, rfl, ?_⟩
 ·simp only [pairsOf, List.map_cons, List.map_nil, List.nil_append, List.cons_append, List.append_nil, List.nodup_cons, List.mem_cons, List.not_mem_nil, or_false, not_or]
  have key : ∀ {x y z w : Int}, ¬ (x = z ∧ y = w) → ¬ (x = w ∧ y = z) → ¬ srt x y = srt z w := fun h1 h2 h3 => by
   rcases srt_inj h3 with h | h
   ·exact h1 h
   ·exact h2 h
  refine ⟨⟨?_, ?_, ?_, ?_, ?_, ?_, ?_, ?_, ?_⟩, ⟨?_, ?_, ?_, ?_, ?_, ?_, ?_, ?_⟩, ⟨?_, ?_, ?_, ?_, ?_, ?_, ?_⟩, ⟨?_, ?_, ?_, ?_, ?_, ?_⟩, ⟨?_, ?_, ?_, ?_, ?_⟩, ⟨?_, ?_, ?_, ?_⟩, ⟨?_, ?_, ?_⟩, ⟨?_, ?_⟩, ?_, ?_, List.nodup_nil⟩ <;> first | exact key (by omega) (by omega) | exact not_false
 ·intro p hp
  simp only [pairsOf, List.map_cons, List.map_nil, List.nil_append, List.cons_append, List.append_nil, List.mem_cons, List.not_mem_nil, or_false] at hp
  rcases hp with rfl | rfl | rfl | rfl | rfl | rfl | rfl | rfl | rfl | rfl <;> (unfold srt; simp only; omega)
theorem nodup33 {a b c d e f : Int} (hn : [a, b, c, d, e, f].Nodup) : (crossOf [a, b, c, d, e, f]).Nodup ∧ (crossOf [a, b, c, d, e, f]).length = 9 ∧ ∀ p, p ∈ crossOf [a, b, c, d, e, f] → p.1 ≠ p.2 := by
 simp only [List.nodup_cons, List.mem_cons, List.not_mem_nil, or_false, not_or] at hn
 refine ⟨?_, rfl, ?_⟩
 ·simp only [crossOf, List.take_succ_cons, List.take_zero, List.drop_succ_cons, List.drop_zero, List.flatMap_cons, List.flatMap_nil, List.map_cons, List.map_nil, List.nil_append, List.cons_append, List.append_nil, List.nodup_cons, List.mem_cons, List.not_mem_nil, or_false, not_or]
  have key : ∀ {x y z w : Int}, ¬ (x = z ∧ y = w) → ¬ (x = w ∧ y = z) → ¬ srt x y = srt z w := fun h1 h2 h3 => by
   rcases srt_inj h3 with h | h
   ·exact h1 h
   ·exact h2 h
  refine ⟨⟨?_, ?_, ?_, ?_, ?_, ?_, ?_, ?_⟩, ⟨?_, ?_, ?_, ?_, ?_, ?_, ?_⟩, ⟨?_, ?_, ?_, ?_, ?_, ?_⟩, ⟨?_, ?_, ?_, ?_, ?_⟩, ⟨?_, ?_, ?_, ?_⟩, ⟨?_, ?_, ?_⟩, ⟨?_, ?_⟩, ?_, ?_, List.nodup_nil⟩ <;> first | exact key (by omega) (by omega) | exact not_false
 ·intro p hp
  simp only [crossOf, List.take_succ_cons, List.take_zero, List.drop_succ_cons, List.drop_zero, List.flatMap_cons, List.flatMap_nil, List.map_cons, List.map_nil, List.nil_append, List.cons_append, List.append_nil, List.mem_cons, List.not_mem_nil, or_false] at hp
  rcases hp with rfl | rfl | rfl | rfl | rfl | rfl | rfl | rfl | rfl <;> (unfold srt; simp only; omega)
theorem list5 {B : List Int} (h : B.length = 5) : ∃ a b c d e, B = [a, b, c, d, e] := by
 match B, h with
 | [a, b, c, d, e], _ => exact ⟨a, b, c, d, e, rfl⟩
theorem list6 {B : List Int} (h : B.length = 6) : ∃ a b c d e f, B = [a, b, c, d, e, f] := by
 match B, h with
 | [a, b, c, d, e, f], _ => exact ⟨a, b, c, d, e, f, rfl⟩
theorem Gk : ∀ {Q E : List Pr}, Q.Nodup → (∀ q, q ∈ Q → q ∈ E) → E.length = Q.length → E.Perm Q
 | [], E, _, _, hl => by
  have : E = [] := List.eq_nil_of_length_eq_zero (by simpa using hl)
  rw [this]
 | q :: Q, E, hn, hs, hl => by
  rw [List.nodup_cons] at hn
  have hq := hs q (by simp)
  have h1 := List.length_erase_of_mem hq
  have h2 := Gk (E := E.erase q) hn.2 (fun x hx => (List.mem_erase_of_ne (fun e => hn.1 (by rw [← e]; exact hx))).2 (hs x (by simp [hx]))) (by rw [h1, hl]; simp)
  exact (List.perm_cons_erase hq).trans (h2.cons q)
/-- The two ways to ask it. -/
theorem FB {Q E : List Pr} (hn : Q.Nodup) (hne : ∀ p, p ∈ Q → p.1 ≠ p.2) :
  (GoodE E ∧ (∀ q, q ∈ Q → q ∈ E) ∧ E.length = Q.length) ↔ (E.length = Q.length ∧ ∀ q, q ∈ Q → E.count q = 1) := by
 constructor
 ·rintro ⟨⟨h1, _⟩, h3, h4⟩
  exact ⟨h4, fun q hq => h1.count (a := q) ▸ (by simp [h3 q hq])⟩
 ·rintro ⟨h1, h2⟩
  have hs : ∀ q, q ∈ Q → q ∈ E := fun q hq => List.count_pos_iff.1 (by rw [h2 q hq]; omega)
  have hp := Gk hn hs h1
  exact ⟨⟨hp.nodup_iff.2 hn, fun p hpm => hne p (hp.mem_iff.1 hpm)⟩, hs, h1⟩
theorem DE (es : List Pr) (n : Nat) : (brV es n).Nodup := by
 unfold brV List.Nodup
 rw [List.pairwise_map]
 exact (List.Nodup.sublist List.filter_sublist List.nodup_range).imp fun h => by omega
theorem Gq {α : Type} (p q : α → Bool) (hq : ∀ x, q x = !p x) (l : List α) : (l.filter p ++ l.filter q).Perm l := by
 have : q = fun x => !p x := funext hq
 rw [this]
 exact List.filter_append_perm p l
theorem EZ (E : List Pr) (B : List Int) : (sidesOf E B).Perm B := Gq _ _ (fun x => by by_cases h : srt (B.headD 0) x ∈ E <;> simp [h]) B
theorem Dq (E : List Pr) (B : List Int) : (sidesR E B).Perm B := by
 refine Gq _ _ (fun x => ?_) B
 by_cases h : srt (B.headD 0) x ∈ E <;> by_cases h2 : x = B.headD 0 <;> simp [h, h2]
theorem G2 {E : List Pr} (hg : GoodE E) (B : List Int) : sidesR E B = sidesOf E B := by
 have hno : srt (B.headD 0) (B.headD 0) ∉ E := fun h => hg.2 _ h (by unfold srt; simp only; omega)
 unfold sidesR sidesOf
 generalize B.headD 0 = b at hno ⊢
 have e1 : (B.filter fun v => decide (v = b ∨ srt (b) v ∉ E)) = B.filter fun v => decide (srt (b) v ∉ E) := by
  apply List.filter_congr
  intro v _
  by_cases h : v = b
  ·subst h; simp [hno]
  ·simp [h]
 have e2 : (B.filter fun v => decide (v ≠ b ∧ srt (b) v ∈ E)) = B.filter fun v => decide (srt (b) v ∈ E) := by
  apply List.filter_congr
  intro v _
  by_cases h : v = b
  ·subst h; simp [hno]
  ·simp [h]
 rw [e1, e2]
/-- How the program asks. -/
def KP (E : List Pr) (B : List Int) (d : Nat) : Prop :=
 GoodE E ∧ ((B.length = 5 ∧ d = 4 ∧ (∀ q, q ∈ pairsOf B → q ∈ E) ∧ E.length = 10) ∨ (B.length = 6 ∧ d = 3 ∧ (∀ q, q ∈ crossOf (sidesOf E B) → q ∈ E) ∧ E.length = 9))
/-- How the reference asks. -/
def KR (E : List Pr) (B : List Int) (d : Nat) : Prop :=
 (B.length = 5 ∧ d = 4 ∧ E.length = 10 ∧ ∀ q, q ∈ pairsOf B → E.count q = 1) ∨ (B.length = 6 ∧ d = 3 ∧ E.length = 9 ∧ ∀ q, q ∈ crossOf (sidesR E B) → E.count q = 1)
theorem Hs {E : List Pr} {B : List Int} {d : Nat} (hB : B.Nodup) : KP E B d ↔ KR E B d := by
 unfold KP KR
 constructor
 ·rintro ⟨hg, ⟨h1, h2, h3, h4⟩ | ⟨h1, h2, h3, h4⟩⟩
  ·obtain ⟨a, b, c, d', e, rfl⟩ := list5 h1
   obtain ⟨k1, k2, k3⟩ := nodup5 hB
   have := (FB k1 k3).1 ⟨hg, h3, by rw [h4, k2]⟩
   exact .inl ⟨h1, h2, h4, this.2⟩
  ·have hp := EZ E B
   rw [← G2 hg] at hp h3
   obtain ⟨a, b, c, d', e, f, hs⟩ := list6 (hp.length_eq.trans h1)
   have hn : (sidesR E B).Nodup := hp.nodup_iff.2 hB
   rw [hs] at hn h3 ⊢
   obtain ⟨k1, k2, k3⟩ := nodup33 hn
   have := (FB k1 k3).1 ⟨hg, h3, by rw [h4, k2]⟩
   exact .inr ⟨h1, h2, h4, this.2⟩
 ·rintro (⟨h1, h2, h3, h4⟩ | ⟨h1, h2, h3, h4⟩)
  ·obtain ⟨a, b, c, d', e, rfl⟩ := list5 h1
   obtain ⟨k1, k2, k3⟩ := nodup5 hB
   have := (FB k1 k3).2 ⟨by rw [h3, k2], h4⟩
   exact ⟨this.1, .inl ⟨h1, h2, this.2.1, h3⟩⟩
  ·have hp := Dq E B
   obtain ⟨a, b, c, d', e, f, hs⟩ := list6 (hp.length_eq.trans h1)
   have hn : (sidesR E B).Nodup := hp.nodup_iff.2 hB
   have h4' := h4
   rw [hs] at hn h4'
   obtain ⟨k1, k2, k3⟩ := nodup33 hn
   have := (FB k1 k3).2 ⟨by rw [h3, k2], h4'⟩
   refine ⟨this.1, .inr ⟨h1, h2, ?_, h3⟩⟩
   rw [← G2 this.1, hs]
   exact this.2.1
/-- A subdivision of K5 or K3,3, but for vertices without edges. -/
def KuraOk (n : Nat) (es : List Pr) : Prop := ∃ d, (∀ v, v ∈ brV es n → degV es v = d) ∧ KP (endsU es es.length) (brV es n) d
end Go.Fl

namespace Go.Fl
open Go Go.Proofs
theorem F4 {es : List Pr} {h : Int} : nxtH es h = if ((outs es (toV es h))[0]?).getD (-1) = tw h then ((outs es (toV es h))[1]?).getD (-1) else ((outs es (toV es h))[0]?).getD (-1) := rfl
structure WyI where
 t : Nat
 v : Value
theorem FT {N : Int} {es : List Pr} {M : AdjM} {p : Option Addr} {w : World} {h : Int} (hA : AV w N es M p) (hh : VH es h) :
  Calls Tryz.prog 180 #[.pointer p, .int .i64 h] w (Ret w [] fun r L => L = [slc r 3 1 (ints (wayOf es h))]) := by
 have hV := hA.vld
 have hfew := hV.few
 have hst := Bx hV hh
 refine At (args := [_, _]) (L := []) Tryz.func180 rfl Tryz.ntmps180 rfl (Own.start _ _) ?_
 refine Zs ?_
 refine Za ?_
 refine Zx <| Zs ?_
 refine Zm ?_
 refine Zm ?_
 refine Seq.rel0 rfl rfl (Ao FF rfl rfl rfl (fun w' hw => B5 (hA.keep hw) h)) ?_
 rintro _ rfl
 refine Za ?_
 refine Zx <| Zs ?_
 refine Zm ?_
 refine Zw (AP (cs := #[_]) rfl rfl Tryz.underlying44 AL BT rfl (by decide) (by decide) rfl rfl) fun g13 => ?_
 refine Za ?_
 refine Zx <| DC.seq <| Zs ?_
 refine Zm ?_
 refine Zm ?_
 refine Seq.rel0 rfl rfl (Ao HF rfl rfl rfl (fun w' hw => Dn (hA.keep hw) h)) ?_
 rintro _ rfl
 refine Za ?_
 refine Zx <| DC.block ?_
 refine DC.own (M := [slc (.slice (some ⟨g13, 0, none⟩) 1 1) 3 1 (ints (wayL es h 0))]) (fun w hw => BY (len := 1) (cap := 1) rfl (by decide) (by omega) (by omega) rfl rfl hw) ?_
 refine DC.loop (ι := WyI) (fun j => Way es h j.t)
  (fun j => [(0, .pointer p), (1, .int .i64 (wI es h j.t)), (5, .int .i64 (fromV es h)), (6, j.v), (7, .int .i64 (toV es (wI es h j.t)))])
  (fun j => [slc j.v 3 1 (ints (wayL es h j.t))]) (fun j => es.length * 2 - j.t) ⟨0, _⟩ ⟨hh, fun i hi => absurd hi (Nat.not_lt_zero _)⟩ ⟨rfl, rfl, rfl, rfl, rfl, trivial⟩ (.cons 0 rfl .nil) ?_
 rintro ⟨t, v⟩ hw
 dsimp only at hw ⊢
 have hlt := hw.lt hV
 have hvh := hw.all hV t (Nat.le_refl _)
 obtain ⟨hv0, hv1⟩ := hvh
 refine DC.seq <| Zs ?_
 refine Zm ?_
 refine Zm ?_
 refine Seq.rel0 rfl rfl (Ao KT rfl rfl rfl (fun w' hw => CJ (hA.keep hw) _)) ?_
 rintro _ rfl
 refine Zo (AN rfl rfl rfl) ?_
 refine Zm ?_
 refine Seq.split 21 rfl (fun k4_4 => ?_) (fun k4_4 => ?_)
 ·refine Zm ?_
  refine Zm ?_
  refine Zo (BB rfl rfl rfl) ?_
  refine Zt ?_
  refine Zx ?_
  refine Zd (fun c4 => ?_) fun c4 => ?_
  ·have hc : contH es (fromV es h) (wI es h t) := ⟨by simp at k4_4; unfold degV; omega, by simpa using c4⟩
   have hw1 : Way es h (t + 1) := ⟨hh, fun i hi => by
    rcases Nat.lt_succ_iff_lt_or_eq.1 hi with h1 | rfl
    ·exact hw.cont i h1
    ·exact hc⟩
   have hlt1 := hw1.lt hV
   have hvh := hw.all hV t (Nat.le_refl _)
   obtain ⟨s1, s2, s3, s4, s5⟩ := Cp hV hvh hc.1
   refine DC.skip <| Fin.then <| DC.seq <| DC.block <| Zs ?_
   refine Zm ?_
   refine Zo (Hj rfl rfl rfl (by omega)) ?_
   refine Za ?_
   refine Zx <| Zs ?_
   refine Zm ?_
   refine Zm ?_
   refine Seq.rel0 rfl rfl (Ao en193 rfl rfl rfl (fun w' hw => Lh (hA.keep hw) _)) ?_
   rintro _ rfl
   refine Za ?_
   refine Zx <| DC.seq <| Zs ?_
   refine Zm ?_
   refine Zm ?_
   refine Zo (AN rfl rfl rfl) ?_
   refine Zx ?_
   refine Zd (fun c8 => ?_) fun c8 => ?_
   ·refine DC.region ?_
    refine Zm ?_
    refine Zm ?_
    refine Seq.rel0 rfl rfl (Ao en194 rfl rfl rfl (fun w' hw => Lk (hA.keep hw) _)) ?_
    rintro _ ⟨r, rfl, hr, _⟩
    have hout0 : (outs es (toV es (wI es h t)))[0]? = some (tw (wI es h t)) := by
     have h1 : ((outs es (toV es (wI es h t)))[0]?).getD (-1) = tw (wI es h t) := by
      unfold tw
      simpa using c8
     cases hq : (outs es (toV es (wI es h t)))[0]? with
     | none => rw [hq] at h1; have := hvh.tw.1; simp at h1; omega
     | some x => rw [hq] at h1; simpa using h1
    have hrr : r = wI es h (t + 1) := by
     show r = nxtH es (wI es h t)
     rw [F4, hout0]
     simp only [Option.getD_some, if_true]
     exact hr _ 0 (by rw [hout0]; rfl)
    subst hrr
    refine Za ?_
    refine Zx <| DC.region ?_
    refine Zm ?_
    refine Zm ?_
    refine Zw (AP (cs := #[_]) rfl rfl Tryz.underlying44 AL BT rfl (by decide) (by decide) rfl rfl) fun g42 => ?_
    refine Seq.gen rfl rfl (AG rfl rfl rfl Tryz.underlying44 AL Dp BT rfl (by decide) (by decide) (fun w hw => hw.pick (.cons 1 rfl .nil)) (.inl ⟨_, _, rfl, Am rfl⟩) rfl (Bm [_] []) (by simp [Cz]; omega)) ?_
    rintro v43 _ rfl
    refine Za ?_
    refine Seq.nil <| Fin.inBlock <| Fin.then <| DC.region ?_
    refine Zm ?_
    refine Zm ?_
    try (
     have hout0 : ((outs es (toV es (wI es h t)))[0]?).getD (-1) = wI es h (t + 1) := by
      show _ = nxtH es (wI es h t)
      rw [F4, if_neg (by unfold tw; simpa using c8)]
     rw [hout0])
    refine Seq.rel0 rfl rfl (Ao HF rfl rfl rfl (fun w' hw => Dn (hA.keep hw) _)) ?_
    rintro _ rfl
    refine Za ?_
    refine Seq.nil ?_
    refine Fin.again ⟨t + 1, v43⟩ (by dsimp only; omega) hw1 ⟨rfl, rfl, rfl, rfl, rfl, trivial⟩ (.cons' 0 rfl (by dsimp only; rw [FU, AQ]; rfl) .nil)
   ·refine DC.skip <| Fin.then <| DC.region ?_
    refine Zm ?_
    refine Zm ?_
    refine Zw (AP (cs := #[_]) rfl rfl Tryz.underlying44 AL BT rfl (by decide) (by decide) rfl rfl) fun g42 => ?_
    refine Seq.gen rfl rfl (AG rfl rfl rfl Tryz.underlying44 AL Dp BT rfl (by decide) (by decide) (fun w hw => hw.pick (.cons 1 rfl .nil)) (.inl ⟨_, _, rfl, Am rfl⟩) rfl (Bm [_] []) (by simp [Cz]; omega)) ?_
    rintro v43 _ rfl
    refine Za ?_
    refine Seq.nil <| Fin.inBlock <| Fin.then <| DC.region ?_
    refine Zm ?_
    refine Zm ?_
    try (
     have hout0 : ((outs es (toV es (wI es h t)))[0]?).getD (-1) = wI es h (t + 1) := by
      show _ = nxtH es (wI es h t)
      rw [F4, if_neg (by unfold tw; simpa using c8)]
     rw [hout0])
    refine Seq.rel0 rfl rfl (Ao HF rfl rfl rfl (fun w' hw => Dn (hA.keep hw) _)) ?_
    rintro _ rfl
    refine Za ?_
    refine Seq.nil ?_
    refine Fin.again ⟨t + 1, v43⟩ (by dsimp only; omega) hw1 ⟨rfl, rfl, rfl, rfl, rfl, trivial⟩ (.cons' 0 rfl (by dsimp only; rw [FU, AQ]; rfl) .nil)
  ·refine DC.exit <| Ad <| Ad <| Ag <| Fin.then <| Zs ?_
   refine Zm ?_
   refine Za ?_
   refine Zx <| DC.ret ?_
   have hT : wayT es h = t := Gy ⟨hw, fun ⟨h1, h2⟩ => by first | (simp at c4; exact h2 c4) | (unfold degV at h1; simp at k4_4; omega)⟩
   refine Fin.weak (E' := [(4, _)]) (L' := [slc v 3 1 (ints (wayL es h t))]) ⟨rfl, trivial⟩ (.cons 0 rfl .nil) ?_
   refine Ak (.inl rfl) rfl rfl ?_
   unfold wayOf
   rw [hT]
 ·refine Zk ?_
  refine Zk ?_
  refine Zk ?_
  refine Zg ?_
  refine Zx ?_
  refine AT rfl ?_
  refine DC.exit <| Ad <| Ad <| Ag <| Fin.then <| Zs ?_
  refine Zm ?_
  refine Za ?_
  refine Zx <| DC.ret ?_
  have hT : wayT es h = t := Gy ⟨hw, fun ⟨h1, h2⟩ => by first | (simp at c4; exact h2 c4) | (unfold degV at h1; simp at k4_4; omega)⟩
  refine Fin.weak (E' := [(4, _)]) (L' := [slc v 3 1 (ints (wayL es h t))]) ⟨rfl, trivial⟩ (.cons 0 rfl .nil) ?_
  refine Ak (.inl rfl) rfl rfl ?_
  unfold wayOf
  rw [hT]
/-- A slice of integers, its place written out. -/
def SlB (w : World) (v : Value) (xs : List Int) : Prop :=
 (∃ A c, v = .slice A 0 c ∧ xs = []) ∨ ∃ g off c, v = .slice (some ⟨g, off, none⟩) xs.length c ∧ xs.length ≤ c ∧ c ≤ 9223372036854775807 ∧ ∀ (j : Nat) x, xs[j]? = some x → w.cell? ⟨g, off + j, none⟩ = some (.int .i64 x)
section
variable {w0 w w' : World} {K : List Nat} {L F : List Chunk} {v : Value} {xs : List Int} {t : Nat}
theorem SlB.keep0 (h : SlB w0 v xs) (hw : Own w0 [] w L) : SlB w v xs := by
 rcases h with h | ⟨g, off, c, rfl, h1, h2, h3⟩
 ·exact .inl h
 ·refine .inr ⟨g, off, c, rfl, h1, h2, fun j x hx => ?_⟩
  have hc := h3 j x hx
  rw [hw.oldCell (World.block_lt_of_cell? w0 _ hc) (by simp)]; exact hc
theorem Fh (hw : Own w0 K w (slc v t 1 (ints xs) :: F)) : SlB w v xs := by
 rcases B8 hw with ⟨rfl, h, _⟩ | ⟨g, len, cap, sp, rfl, h1, h2, h3, h4, hO⟩
 ·exact .inl ⟨_, _, rfl, by cases xs; rfl; simp [ints] at h⟩
 ·simp at h1
  subst h1
  refine .inr ⟨g, 0, cap, rfl, h2, h3, fun j x hx => ?_⟩
  have := hO.holds _ (List.mem_cons_self ..)
  rw [cell_of_row w g _ _ t (0, 0) this]
  have hj := (List.getElem?_eq_some_iff.1 hx).1
  rw [List.getElem?_toArray, Nat.zero_add, List.getElem?_append_left (by simpa using hj), BI hx]
/-- A part of it. -/
theorem SlB.drop {A : Option Addr} {len c k : Nat} (h : SlB w (.slice A len c) xs) (hk : k ≤ len) : SlB w (.slice (if c = k then A else A.map (·.add (k * 1))) (len - k) (c - k)) (xs.drop k) := by
 rcases h with ⟨A', c', e, rfl⟩ | ⟨g, off, c', e, h1, h2, h3⟩
 ·cases e
  obtain rfl : k = 0 := by omega
  exact .inl ⟨_, _, rfl, by simp⟩
 ·injection e with e1 e2 e3
  subst e1 e2 e3
  by_cases hl : k = xs.length
  ·exact .inl ⟨_, _, by rw [hl, Nat.sub_self], by rw [hl, List.drop_length]⟩
  ·rw [if_neg (by omega)]
   refine .inr ⟨g, off + k, c - k, ?_, by rw [List.length_drop]; omega, by omega, fun j x hx => ?_⟩
   ·rw [List.length_drop]
    congr 1
    simp only [Option.map_some, Addr.add, Nat.mul_one]
    by_cases h0 : k = 0
    ·subst h0; simp
    ·rw [if_neg h0]
   ·rw [List.getElem?_drop] at hx
    rw [Nat.add_assoc]; exact h3 _ _ hx
theorem SlB.take {A : Option Addr} {len c k : Nat} (h : SlB w (.slice A len c) xs) (hl : len = xs.length) (hk : k ≤ len) : SlB w (.slice A k c) (xs.take k) := by
 rcases h with ⟨A', c', e, rfl⟩ | ⟨g, off, c', e, h1, h2, h3⟩
 ·cases e
  obtain rfl : k = 0 := by omega
  exact .inl ⟨_, _, rfl, by simp⟩
 ·injection e with e1 e2 e3
  subst e1 e2 e3
  refine .inr ⟨g, off, c, by rw [List.length_take, Nat.min_eq_left hk], by rw [List.length_take]; omega, h2, fun j x hx => ?_⟩
  rw [List.getElem?_take] at hx
  split at hx
  ·exact h3 j x hx
  ·cases hx
theorem SlB.slv (h : SlB w v xs) (hf : xs.length ≤ 17592186044416) : ∃ A c, v = .slice A xs.length c ∧ Rd w A (ints xs) := by
 rcases h with ⟨A, c, rfl, rfl⟩ | ⟨g, off, c, rfl, h1, h2, h3⟩
 ·exact ⟨A, c, rfl, fun j u h => by simp [ints] at h⟩
 ·refine ⟨_, c, rfl, fun j u hj => ⟨_, rfl, ?_⟩⟩
  unfold ints at hj
  rw [List.getElem?_map, Option.map_eq_some_iff] at hj
  obtain ⟨x, hx, rfl⟩ := hj
  have : (⟨g, off, none⟩ : Addr).add j = ⟨g, off + j, none⟩ := by
   unfold Addr.add
   by_cases h0 : j = 0
   ·subst h0; simp
   ·rw [if_neg h0]
  rw [this]; exact h3 j x hx
theorem own_row {vs : List Value} {n : Nat} (h : w'.ownsRow w.heap.size t 1 v n vs) (hl : vs.length = n) (hb : RowKit.Below w.heap.size w w') : Own w [] w' [slc v t 1 vs] := by
 subst hl
 have hB : ∀ g, g ∈ v.ownBlock.toList → w.heap.size ≤ g ∧ g < w'.heap.size := by
  intro g hg
  rcases h.2 with ⟨rfl, _⟩ | ⟨g', cap, cur, rfl, h1, h2, _⟩
  ·simp [Value.ownBlock] at hg
  ·simp [Value.ownBlock] at hg
   subst hg
   exact ⟨h1, (Array.getElem?_eq_some_iff.1 h2).1⟩
 refine ⟨hb.os, hb.tape, hb.output, .inl trivial, hb.size, fun k hk _ => hb.block k hk, ?_, fun g hg => .inr (hB g (by simpa [slc] using hg)).1, fun g hg => (hB g (by simpa [slc] using hg)).2, fun c hc => ?_⟩
 ·simp only [idsOf_cons, idsOf_nil, List.append_nil, slc]
  cases v.ownBlock <;> simp
 ·simp at hc; subst hc
  show w'.ownsRow 0 t 1 v (vs.length / 1) vs
  rw [Nat.div_one]
  refine ⟨h.1, ?_⟩
  rcases h.2 with h2 | ⟨g', cap, cur, e, h1, r⟩
  ·exact .inl h2
  ·exact .inr ⟨g', cap, cur, e, Nat.zero_le _, r⟩
theorem EB (hv : SlB w v xs) (hl : xs.length ≤ 17592186044416) :
  Calls Tryz.prog 52 #[v] w (Ret w [] fun r L => L = [slc r 3 1 (ints xs)]) := by
 rcases hv with ⟨A, c, rfl, rfl⟩ | ⟨g, off, c, rfl, h1, h2, h3⟩
 ·cases A with
  | none =>
   refine (Tryz.slices_Clone_int_nil 0 c w).mono ?_
   rintro e w' ⟨rfl, rfl⟩
   exact ⟨_, _, rfl, rfl, Bd (Own.start _ _)⟩
  | some a =>
   refine (Tryz.slices_Clone_int_zero a c w).mono ?_
   rintro e w' ⟨v', rfl, h1, _, h2⟩
   exact ⟨_, _, rfl, rfl, own_row h1 rfl h2⟩
 ·refine (Tryz.slices_Clone_int g off xs.length c xs w (Nat.le_refl _) (by omega) (fun j hj => ?_)).mono ?_
  ·rw [List.getD_eq_getElem?_getD, List.getElem?_eq_getElem hj]
   exact h3 j _ (List.getElem?_eq_getElem hj)
  ·rintro e w' ⟨v', rfl, h4, _, h5⟩
   rw [List.take_length] at h4
   exact ⟨_, _, rfl, rfl, own_row h4 (by simp) h5⟩
theorem own_map {g : Nat} {cs : Array Value} (hg : w.heap[g]? = some (.cells cs t (0, 0))) (f : Array Value → Array Value) (k : Nat) : Own w [g] (Sort.mapBlock (Sort.ahead w k) g f) [blk g t (f cs)] := by
 have hlt : g < w.heap.size := (Array.getElem?_eq_some_iff.1 hg).1
 refine ⟨rfl, rfl, rfl, .inl trivial, by simp [Sort.mapBlock, Sort.ahead], fun k hk hn => ?_, by simp [blk], fun x hx => ?_, fun x hx => ?_, fun c hc => ?_⟩
 ·simp at hn
  simp only [Sort.mapBlock, Sort.ahead, Array.getElem?_modify]
  rw [if_neg (by omega)]
 ·simp [blk] at hx; subst hx; exact .inl (by simp)
 ·simp [blk] at hx; subst hx; simpa [Sort.mapBlock, Sort.ahead] using hlt
 ·simp at hc; subst hc
  simp [blk, Sort.mapBlock, Sort.ahead, Array.getElem?_modify, hg, Sort.onCells]
theorem put_ints {a b : List Int} {sp : List Value} (h : b.length = a.length) : Sort.putCells (Value.int .i64) 0 b.toArray (ints a ++ sp).toArray = (ints b ++ sp).toArray := by
 apply Array.ext_getElem?
 intro k
 unfold Sort.putCells
 rw [Array.getElem?_mapIdx]
 simp only [List.getElem?_toArray, List.size_toArray, Nat.zero_le, true_and, Nat.zero_add, Nat.sub_zero]
 by_cases hk : k < b.length
 ·rw [List.getElem?_append_left (by simp; omega), List.getElem?_append_left (by simp; omega)]
  simp [ints, hk, show k < a.length by omega]
 ·rw [List.getElem?_append_right (by simp; omega), List.getElem?_append_right (by simp; omega)]
  have hk' : ¬ k < a.length := by omega
  simp only [h, hk', if_false, Option.map_id_fun', id, ints_length]
theorem In (hO : Own w (idsOf [slc v 3 1 (ints xs)]) w [slc v 3 1 (ints xs)]) :
  Calls Tryz.prog 53 #[v] w (Ret w (idsOf [slc v 3 1 (ints xs)]) fun r M => M = [slc v 3 1 (ints xs.reverse)]) := by
 rcases B8 hO with ⟨rfl, h, _⟩ | ⟨g, len, cap, sp, rfl, h1, h2, h3, h4, hb⟩
 ·obtain rfl : xs = [] := by cases xs; rfl; simp [ints] at h
  refine (Tryz.slices_Reverse_int_empty none 0 w).mono ?_
  rintro e w' ⟨rfl, rfl⟩
  exact ⟨_, _, rfl, rfl, hO⟩
 ·simp at h1
  subst h1
  have hg := hb.holds _ (List.mem_cons_self ..)
  refine (Tryz.slices_Reverse_int g 0 cap xs w (fun j hj => ?_) (by omega)).mono ?_
  ·have hj' : j < xs.length := by simpa using hj
   constructor
   ·rw [cell_of_row w g _ _ _ (0, 0) hg]
    rw [List.getElem?_toArray, Nat.zero_add, List.getElem?_append_left (by simpa using hj')]
    simp [ints, hj']
   ·have hg' : w.heap[g]? = some (.cells (ints xs ++ sp).toArray 3 (0, 0)) := hg
    simp [World.frozen?, hg']
  ·rintro e w' ⟨rfl, k, rfl⟩
   refine ⟨_, _, rfl, rfl, ?_⟩
   have := own_map hg (Sort.putCells (Value.int .i64) 0 xs.reverse.toArray) k
   rw [put_ints (by simp)] at this
   refine BY (by simp) (by decide) h2 h3 (by simp at h4 ⊢; omega) ?_ this
   simp
end
end Go.Fl

namespace Go.Fl
open Go Go.Proofs
structure AbI where
 i : Nat
 zs : List Int
theorem Dw {w : World} {v : Value} {xs : List Int} (hv : SlB w v xs) (hl : xs.length ≤ 17592186044416) (hx : ∀ x, x ∈ xs → 0 ≤ x ∧ x ≤ 9223372036854775807) :
  Calls Tryz.prog 183 #[v] w (Ret w [] fun r L => L = [slc r 3 1 (ints (aboutL xs))]) := by
 refine At (args := [_]) (L := []) Tryz.func183 rfl Tryz.ntmps183 rfl (Own.start _ _) ?_
 refine Zs ?_
 refine Za ?_
 refine Zx <| Zs ?_
 refine Zm ?_
 refine Seq.rel rfl rfl (Ao en52 rfl rfl rfl (fun w' hw => EB (hv.keep0 hw) hl)) ?_
 rintro vc _ rfl
 refine Za ?_
 refine Zx <| Zs ?_
 refine Zm ?_
 refine Seq.gen rfl rfl (BK en53 rfl rfl rfl (Lc := [slc vc 3 1 (ints xs)]) (F := []) (.refl _) (fun k hk => hk) (fun w' hw => In hw.self)) ?_
 rintro v8 _ ⟨_, rfl, rfl⟩
 refine Zx <| DC.seq <| DC.seq ?_
 have hrl : xs.reverse.length = xs.length := List.length_reverse
 refine DC.slcs (i := 0) (xs := xs.reverse) rfl (by omega) ?_
 rintro A c rfl hA
 rw [hrl]
 refine DC.region ?_
 refine Zm ?_
 refine Zn Tryz.underlying44 ?_
 refine Zm ?_
 refine Zx <| DC.block ?_
 refine DC.loop (ι := AbI) (fun j => j.i ≤ xs.length ∧ j.zs.length = xs.length ∧ ∀ (q : Nat), j.zs[q]? = if q < j.i then (xs.reverse[q]?).map tw else xs.reverse[q]?)
  (fun j => [(3, .slice A xs.length c), (10, .int .i64 xs.length), (11, .int .i64 j.i)])
  (fun j => [slc (.slice A xs.length c) 3 1 (ints j.zs)]) (fun j => xs.length - j.i) ⟨0, xs.reverse⟩ ⟨Nat.zero_le _, hrl, fun q => by rw [if_neg (Nat.not_lt_zero _)]⟩ ⟨rfl, rfl, rfl, trivial⟩ (.cons 0 rfl .nil) ?_
 rintro ⟨i, zs⟩ ⟨hi, hz, hq⟩
 dsimp only at hi hz hq ⊢
 refine Zs ?_
 refine Zc ?_
 refine Zx <| DC.seq ?_
 refine Zd (fun c4 => ?_) fun c4 => ?_
 ·have hlt : i < xs.length := by simpa using c4
  obtain ⟨ad, rfl⟩ := hA (fun e => by rw [e] at hrl; simp at hrl; omega)
  obtain ⟨y, hy⟩ : ∃ y, xs.reverse[i]? = some y := ⟨_, List.getElem?_eq_getElem (by omega)⟩
  have hzy : zs[i]? = some y := by rw [hq, if_neg (Nat.lt_irrefl _)]; exact hy
  obtain ⟨hy0, hy1⟩ := hx y (List.mem_reverse.1 (List.mem_of_getElem? hy))
  refine DC.skip <| Fin.then <| DC.seq <| DC.block <| Zs ?_
  refine Zm ?_
  refine Za ?_
  refine Zx <| DC.region ?_
  refine Zm ?_
  refine Zm ?_
  refine Zo (Ah (ad' := ad.add i) rfl rfl rfl Tryz.underlying44 AL (by omega) (by omega) rfl) ?_
  refine Zu (Ai rfl rfl AI (BJ (i := 0) rfl hzy (by omega))) ?_
  refine Zo (Hj rfl rfl rfl (by omega)) ?_
  refine Zo (Ah (ad' := ad.add i) rfl rfl rfl Tryz.underlying44 AL (by omega) (by omega) rfl) ?_
  refine Zy (G3 (i := 0) (j := i) rfl rfl rfl rfl AL (by omega)) ?_
  refine Seq.nil <| Fin.inBlock <| Fin.then <| DC.region ?_
  refine Zp ?_
  refine Zm ?_
  refine Seq.nil ?_
  refine Fin.again ⟨i + 1, zs.set i (tw y)⟩ (by dsimp only; omega) ⟨by dsimp only; omega, by simp [hz], fun q => ?_⟩ ⟨rfl, rfl, rfl, trivial⟩ (.cons 0 rfl .nil)
  dsimp only
  rw [List.getElem?_set]
  by_cases hqi : i = q
  ·subst hqi
   rw [if_pos rfl, if_pos (by omega), if_pos (by omega), hy]; rfl
  ·rw [if_neg hqi, hq]
   by_cases h1 : q < i
   ·rw [if_pos h1, if_pos (by omega)]
   ·rw [if_neg h1, if_neg (by omega)]
 ·refine DC.exit <| Ad <| Ad <| Ag <| Fin.then <| Zs ?_
  refine Zm ?_
  refine Za ?_
  refine Zx <| DC.ret ?_
  have hie : i = xs.length := by simp at c4; omega
  subst hie
  have hze : zs = aboutL xs := by
   apply List.ext_getElem?
   intro q
   rw [hq]
   unfold aboutL
   rw [List.getElem?_map]
   by_cases h1 : q < xs.length
   ·rw [if_pos h1]
   ·rw [if_neg h1, List.getElem?_eq_none (by omega)]; rfl
  refine Fin.weak (E' := [(2, _)]) (L' := [slc (.slice A xs.length c) 3 1 (ints zs)]) ⟨rfl, trivial⟩ (.cons 0 rfl .nil) ?_
  refine Ak (.inl rfl) rfl rfl ?_
  rw [hze]
/-- How the ends of a chain as it is written come of its ends. -/
def WrtR (a b : Int) (c : List Int) : Prop := ∃ p q, c[0]? = some p ∧ c[c.length - 1]? = some q ∧ (a = b → p = q) ∧ (a ≠ b → p = min a b ∧ q = max a b)
structure WrI where
 vl : Value
 ad : Addr
 l : List Int
 c : Nat
 L : List Chunk
 a : Int
 b : Int
structure WrE (es : List Pr) (w : World) (n : Nat) (j : WrI) : Prop where
 val : j.vl = .slice (some j.ad) j.l.length j.c
 rds : ∀ w', Own w [] w' j.L → Rd w' (some j.ad) (ints j.l) ∧ SlB w' j.vl j.l
 len : j.l.length = n
 all : AllH es j.l
 hd : ∃ x, j.l[0]? = some x ∧ fromV es x = j.a
 la : ∃ y, j.l[j.l.length - 1]? = some y ∧ toV es y = j.b
theorem GL {w : World} {L L' : List Chunk} {vl : Value} {ad : Addr} {l : List Int} {j : Nat} {x : Int} (h : ∀ w', Own w [] w' L' → Rd w' (some ad) (ints l) ∧ SlB w' vl l) (hp : ∀ w', Own w [] w' L → Own w [] w' L') (hj : l[j]? = some x) :
  Has w [] L (ad.add j) (.int .i64 x) := by
 intro w' hw
 obtain ⟨ad', e, hc⟩ := (h w' (hp w' hw)).1.int hj
 cases e; exact hc
theorem I8 {w : World} {ad : Addr} {l : List Int} {n c t : Nat} (hf : l.length ≤ 17592186044416) :
  ∀ w', Own w [] w' [slc (.slice (some ad) n c) t 1 (ints l)] → Rd w' (some ad) (ints l) ∧ SlB w' (.slice (some ad) n c) l := by
 intro w' hw
 refine ⟨?_, Fh hw⟩
 obtain ⟨A, cap, e, hr, _⟩ := Cc hw 0 rfl hf
 cases e; exact hr
theorem HT {es : List Pr} {l : List Int} {x y : Int} (ha : AllH es l) (hx : l[0]? = some x) (hy : l[l.length - 1]? = some y) :
  (∃ z, (aboutL l)[0]? = some z ∧ fromV es z = toV es y) ∧ ∃ z, (aboutL l)[(aboutL l).length - 1]? = some z ∧ toV es z = fromV es x := by
 have hp := (List.getElem?_eq_some_iff.1 hx).1
 refine ⟨⟨tw y, ?_, CG (ha _ (List.mem_of_getElem? hy))⟩, ⟨tw x, ?_, Ii (ha _ (List.mem_of_getElem? hx))⟩⟩
 ·rw [Db hp, Nat.sub_zero, hy]; rfl
 ·rw [BE, Db (by omega), show l.length - 1 - (l.length - 1) = 0 by omega, hx]; rfl
structure WrJ where
 i : Nat
 m : Nat
structure WrK where
 i : Nat
 v : Value
theorem HX {N : Int} {es : List Pr} {M : AdjM} {p : Option Addr} {w : World} {v : Value} {l : List Int} (hA : AV w N es M p) (hv : SlB w v l) (hne : l ≠ []) (hall : AllH es l) (hlk : Link es l) (hl : l.length ≤ 1000000000) :
  Calls Tryz.prog 161 #[.pointer p, v] w (Ret w [] fun r L => ∃ c, L = [slc r 3 1 (ints c)] ∧ c.length = l.length + 1 ∧
   ∀ x y, l[0]? = some x → l[l.length - 1]? = some y → WrtR (fromV es x) (toV es y) c) := by
 have hV := hA.vld
 have hfew := hV.few
 have hv' := hv
 obtain ⟨g, off, cap, rfl, hlc, hcm, hcell⟩ := hv.resolve_left (fun ⟨_, _, _, h⟩ => hne h)
 have hpos : 0 < l.length := List.length_pos_iff.2 hne
 obtain ⟨x0, hx0⟩ : ∃ x, l[0]? = some x := ⟨_, List.getElem?_eq_getElem hpos⟩
 obtain ⟨y0, hy0⟩ : ∃ y, l[l.length - 1]? = some y := ⟨_, List.getElem?_eq_getElem (by omega)⟩
 have hcL : ∀ {j : Nat} {x : Int}, l[j]? = some x → w.cell? ((⟨g, off, none⟩ : Addr).add j) = some (.int .i64 x) := fun hj => by rw [Bf]; exact hcell _ _ hj
 refine At (args := [_, _]) (L := []) Tryz.func161 rfl Tryz.ntmps161 rfl (Own.start _ _) ?_
 refine Zs ?_
 refine Za ?_
 refine Zx <| DC.seq ?_
 refine AD (cl := [.q, .q, .q, .v, .r, .q, .q, .q, .q, .q, .q, .v, .r, .q, .q]) (A := [0, 0, 2, 6, 15, 0, 0, 0, 128, 384, 960, 1984, 4095, 8191, 16383]) (order := [0, 1, 2, 3, 4, 5, 6, 7, 8, 9, 10, 11, 12, 13, 14]) [] mixed (by kernel_rfl) (fun w hw => hw.pick .nil) ?_
 refine Ym ?_
 refine Ym ?_
 refine Yo rfl (Ah (ad' := (⟨g, off, none⟩ : Addr).add 0) rfl rfl rfl Tryz.underlying44 AL (by omega) (by omega) rfl) ?_
 refine Aj rfl rfl rfl rfl (Ai rfl rfl AI (Ar (hcL hx0))) ?_
 refine Flow.rel0 rfl rfl rfl rfl (Ao FF rfl rfl rfl (fun w' hw => B5 (hA.keep hw) _)) ?_
 rintro _ rfl
 refine Ym ?_
 refine Ym ?_
 refine Ym ?_
 refine Yo rfl (CL rfl rfl Tryz.underlying44) ?_
 refine Yo rfl (BA rfl rfl rfl (by omega)) ?_
 refine Yo rfl (Ah (ad' := (⟨g, off, none⟩ : Addr).add (l.length - 1)) rfl rfl rfl Tryz.underlying44 AL (by omega) (by omega) (by rw [show ((l.length : Int) - 1).toNat = l.length - 1 by omega])) ?_
 refine Aj rfl rfl rfl rfl (Ai rfl rfl AI (Ar (hcL hy0))) ?_
 refine Flow.rel0 rfl rfl rfl rfl (Ao HF rfl rfl rfl (fun w' hw => Dn (hA.keep hw) _)) ?_
 rintro _ rfl
 refine Yo rfl (AY rfl rfl) ?_
 refine Yo rfl (AY rfl rfl) ?_
 refine Flow.end rfl ?_
 simp only [zq, zr]
 refine Fin.then ?_
 refine DC.cut (ι := WrI) (fun j => WrE es w l.length j ∧ (fromV es x0 = toV es y0 → j.a = j.b) ∧ (fromV es x0 ≠ toV es y0 → j.a = fromV es x0 ∧ j.b = toV es y0))
  (fun j => [(0, .pointer p), (1, j.vl), (5, .int .i64 j.a), (6, .int .i64 j.b)]) (fun j => j.L) ?first12 ?rest12
 case first12 =>
  refine Zs ?_
  refine Zm ?_
  refine Zm ?_
  refine Zo (AN rfl rfl rfl) ?_
  refine Zm ?_
  refine Seq.split 29 rfl (fun k2_3 => ?_) (fun k2_3 => ?_)
  ·refine Zm ?_
   refine Zm ?_
   refine Seq.rel0 rfl rfl (Ao KT rfl rfl rfl (fun w' hw => CJ (hA.keep hw) _)) ?_
   rintro _ rfl
   refine Zo (AN rfl rfl rfl) ?_
   refine Zt ?_
   refine Zx ?_
   refine Zd (fun c2 => ?_) fun c2 => ?_
   ·refine Zs ?_
    refine Za ?_
    refine Zx <| DC.seq <| Zs ?_
    refine Zm ?_
    refine Zn Tryz.underlying44 ?_
    refine Zm ?_
    refine Zx <| DC.block ?_
    refine DC.loop (ι := WrJ) (fun j => j.i ≤ l.length ∧ j.m < l.length) (fun j => [(0, .pointer p), (1, .slice (some ⟨g, off, none⟩) l.length cap), (7, .int .i64 j.m), (35, .slice (some ⟨g, off, none⟩) l.length cap), (36, .int .i64 l.length), (37, .int .i64 j.i)])
     (fun _ => []) (fun j => l.length - j.i) ⟨0, 0⟩ ⟨Nat.zero_le _, hpos⟩ ⟨rfl, rfl, rfl, rfl, rfl, rfl, trivial⟩ .nil ?_
    rintro ⟨i, m⟩ ⟨hi, hm⟩
    dsimp only at hi hm ⊢
    refine Zs ?_
    refine Zc ?_
    refine Zx <| DC.seq ?_
    refine Zd (fun c5 => ?_) fun c5 => ?_
    ·have hlt : i < l.length := by simpa using c5
     obtain ⟨x, hx⟩ : ∃ x, l[i]? = some x := ⟨_, List.getElem?_eq_getElem hlt⟩
     obtain ⟨y, hy⟩ : ∃ y, l[m]? = some y := ⟨_, List.getElem?_eq_getElem hm⟩
     refine DC.skip <| Fin.then <| DC.seq <| DC.block <| Zs ?_
     refine Zm ?_
     refine Zo (Ah (ad' := (⟨g, off, none⟩ : Addr).add i) rfl rfl rfl Tryz.underlying44 AL (by omega) (by omega) rfl) ?_
     refine Zu (Ai rfl rfl AI (Ar (hcL hx))) ?_
     refine Za ?_
     refine Za ?_
     refine Zx <| DC.seq ?_
     refine AD (cl := [.q, .q, .r, .q, .q, .q, .q, .v, .r, .q]) (A := [0, 0, 3, 0, 0, 0, 48, 112, 255, 511]) (order := [0, 1, 2, 3, 4, 5, 6, 7, 8, 9]) [] mixed (by kernel_rfl) (fun w hw => hw.pick .nil) ?_
     refine Ym ?_
     refine Ym ?_
     refine Flow.rel0 rfl rfl rfl rfl (Ao FF rfl rfl rfl (fun w' hw => B5 (hA.keep hw) _)) ?_
     rintro _ rfl
     refine Ym ?_
     refine Ym ?_
     refine Ym ?_
     refine Yo rfl (Ah (ad' := (⟨g, off, none⟩ : Addr).add m) rfl rfl rfl Tryz.underlying44 AL (by omega) (by omega) rfl) ?_
     refine Aj rfl rfl rfl rfl (Ai rfl rfl AI (Ar (hcL hy))) ?_
     refine Flow.rel0 rfl rfl rfl rfl (Ao FF rfl rfl rfl (fun w' hw => B5 (hA.keep hw) _)) ?_
     rintro _ rfl
     refine Yo rfl (Gn rfl rfl rfl) ?_
     refine Flow.end rfl ?_
     simp only [zq, zr]
     refine Fin.then ?_
     refine Zd (fun c7 => ?_) fun c7 => ?_
     ·refine DC.region ?_
      refine Zm ?_
      refine Za ?_
      refine Seq.nil <| Fin.inBlock <| Fin.then <| DC.region ?_
      refine Zp ?_
      refine Zm ?_
      refine Seq.nil ?_
      refine Fin.again ⟨i + 1, i⟩ (by dsimp only; omega) ⟨by dsimp only; omega, by dsimp only; omega⟩ ⟨rfl, rfl, rfl, rfl, rfl, rfl, trivial⟩ .nil
     ·refine DC.skip <| Fin.inBlock <| Fin.then <| DC.region ?_
      refine Zp ?_
      refine Zm ?_
      refine Seq.nil ?_
      refine Fin.again ⟨i + 1, m⟩ (by dsimp only; omega) ⟨by dsimp only; omega, by dsimp only; omega⟩ ⟨rfl, rfl, rfl, rfl, rfl, rfl, trivial⟩ .nil
    ·refine DC.exit <| Ad <| Ad <| Ag <| Fin.then <| DC.seq ?_
     refine AD (cl := [.q, .q, .q, .r, .q, .q, .q, .g, .q]) (A := [0, 0, 3, 7, 0, 0, 48, 127, 255]) (order := [0, 1, 2, 3, 4, 5, 6, 7, 8]) [] mixed (by kernel_rfl) (fun w hw => hw.pick .nil) ?_
     refine Ym ?_
     refine Ym ?_
     refine Yo rfl (C5 (lo := m) rfl rfl rfl Tryz.underlying44 AL (by omega)) ?_
     refine EP rfl rfl rfl rfl (Ao en52 rfl rfl rfl (fun w' hw => EB ((hv'.keep0 hw).drop (by omega)) (by rw [List.length_drop]; omega))) ?_
     rintro vc _ rfl
     refine Ym ?_
     refine Ym ?_
     refine Yo rfl (CO (hi := m) rfl rfl rfl Tryz.underlying44 AL (by omega)) ?_
     refine DH (V := _) rfl rfl rfl rfl rfl (AG rfl rfl rfl Tryz.underlying44 AL Dp BT rfl (by decide) (by decide) (fun w hw => hw.pick (.cons 0 rfl .nil)) (Lu (vs := ints (l.take m)) (k := m) (m := 1) (A := some ⟨g, off, none⟩) (fun j u hj => ⟨_, rfl, by
      unfold ints at hj
      rw [List.getElem?_map, Option.map_eq_some_iff] at hj
      obtain ⟨x, hx, rfl⟩ := hj
      rw [List.getElem?_take] at hx
      split at hx
      ·exact hcL hx
      ·cases hx⟩) (by simp; omega) (by simp) (fun h => by cases h)) (by simp; omega) (Bm (l.take m) []) (by simp; omega)) (fun v L' hC w hw => hw.pick (.nil)) ?_
     rintro v61 _ rfl
     refine Yo rfl (AY rfl rfl) ?_
     refine Flow.end rfl ?_
     simp only [zq, zr]
     refine Fin.then <| DC.seq ?_
     have hie : i = l.length := by simp at c5; omega
     rw [← AQ]
     have hl1 : (l.drop m ++ l.take m).length = l.length := by rw [List.length_append, List.length_drop, List.length_take]; omega
     refine DC.slcs (i := 0) (xs := l.drop m ++ l.take m) rfl (by omega) ?_
     rintro A1 c1 rfl hA1
     obtain ⟨ad1, rfl⟩ := hA1 (fun e => by rw [e] at hl1; simp at hl1; omega)
     obtain ⟨z, hz⟩ : ∃ z, l[m]? = some z := ⟨_, List.getElem?_eq_getElem hm⟩
     have hz0 : (l.drop m ++ l.take m)[0]? = some z := by rw [List.getElem?_append_left (by rw [List.length_drop]; omega), List.getElem?_drop]; exact hz
     refine DC.region ?_
     refine Zm ?_
     refine Zm ?_
     refine Zo (Ah (ad' := ad1.add 0) rfl rfl rfl Tryz.underlying44 AL (by omega) (by omega) rfl) ?_
     refine Zu (Ai rfl rfl AI (BJ (i := 0) rfl hz0 (by omega))) ?_
     refine Seq.rel0 rfl rfl (Ao FF rfl rfl rfl (fun w' hw => B5 (hA.keep hw) _)) ?_
     rintro _ rfl
     refine Za ?_
     refine Zx <| DC.region ?_
     refine Zm ?_
     refine Za ?_
     refine Seq.nil ?_
     have heq : fromV es x0 = toV es y0 := by first | simpa using k2_3 | (simp at k2_3; exact k2_3)
     refine AJ ⟨.slice (some ad1) (l.drop m ++ l.take m).length c1, ad1, l.drop m ++ l.take m, c1, [slc (.slice (some ad1) (l.drop m ++ l.take m).length c1) 3 1 (ints (l.drop m ++ l.take m))], fromV es z, fromV es z⟩
      ⟨⟨rfl, I8 (by omega), hl1, fun x hx => ?_, ⟨z, hz0, rfl⟩, ?_⟩, fun _ => rfl, fun h => absurd heq h⟩ ⟨rfl, rfl, rfl, rfl, trivial⟩ (.cons 0 rfl .nil)
     ·rcases List.mem_append.1 hx with hx | hx
      ·exact hall x (List.mem_of_mem_drop hx)
      ·exact hall x (List.mem_of_mem_take hx)
     ·dsimp only
      rw [hl1]
      by_cases h0 : m = 0
      ·subst h0
       have hzx : z = x0 := by rw [hz] at hx0; exact Option.some.inj hx0
       exact ⟨y0, by simpa using hy0, by rw [hzx]; exact heq.symm⟩
      ·obtain ⟨y, hy⟩ : ∃ y, l[m - 1]? = some y := ⟨_, List.getElem?_eq_getElem (by omega)⟩
       refine ⟨y, ?_, (hlk (m - 1) y z hy (by rw [← hz]; congr 1; omega)).symm⟩
       rw [List.getElem?_append_right (by rw [List.length_drop]; omega), List.length_drop, List.getElem?_take, if_pos (by omega), ← hy]
       congr 1; omega
   ·refine DC.skip ?_
    refine AJ ⟨.slice (some ⟨g, off, none⟩) l.length cap, ⟨g, off, none⟩, l, cap, [], fromV es x0, toV es y0⟩
     ⟨⟨rfl, fun w' hw => ⟨?_, hv'.keep0 hw⟩, rfl, hall, ⟨x0, hx0, rfl⟩, ⟨y0, hy0, rfl⟩⟩, fun h => h, fun _ => ⟨rfl, rfl⟩⟩ ⟨rfl, rfl, rfl, rfl, trivial⟩ .nil
    obtain ⟨A, c, e, hr⟩ := (hv'.keep0 hw).slv (by omega)
    cases e; exact hr
  ·refine Zk ?_
   refine Zk ?_
   refine Zk ?_
   refine Zk ?_
   refine Zg ?_
   refine Zx ?_
   refine AT rfl ?_
   refine DC.skip ?_
   refine AJ ⟨.slice (some ⟨g, off, none⟩) l.length cap, ⟨g, off, none⟩, l, cap, [], fromV es x0, toV es y0⟩
    ⟨⟨rfl, fun w' hw => ⟨?_, hv'.keep0 hw⟩, rfl, hall, ⟨x0, hx0, rfl⟩, ⟨y0, hy0, rfl⟩⟩, fun h => h, fun _ => ⟨rfl, rfl⟩⟩ ⟨rfl, rfl, rfl, rfl, trivial⟩ .nil
   obtain ⟨A, c, e, hr⟩ := (hv'.keep0 hw).slv (by omega)
   cases e; exact hr
 case rest12 =>
  rintro ⟨vl, ad, l1, c1, L1, a1, b1⟩ ⟨⟨hval, hrds, hlen, hall1, ⟨x1, hx1, hxa⟩, ⟨y1, hy1, hyb⟩⟩, hends⟩
  dsimp only at hval hrds hlen hall1 hx1 hxa hy1 hyb hends ⊢
  subst hval hxa hyb
  refine DC.cut (ι := WrI) (fun j => WrE es w l.length j ∧ (fromV es x0 = toV es y0 → j.a = j.b) ∧ (fromV es x0 ≠ toV es y0 → j.a = min (fromV es x0) (toV es y0) ∧ j.b = max (fromV es x0) (toV es y0)))
   (fun j => [(0, .pointer p), (1, j.vl)]) (fun j => j.L) ?first14 ?rest14
  case first14 =>
   refine DC.seq ?_
   refine AD (cl := [.q, .q, .q, .q, .q, .q, .q, .q, .q, .q, .q, .v, .r, .q, .q, .q, .q, .q, .q, .v, .r, .q, .q, .q]) (A := [0, 0, 3, 7, 15, 15, 63, 127, 255, 255, 767, 1791, 4095, 255, 255, 255, 33023, 98559, 246015, 508159, 1048575, 2097151, 4194303, 8388607]) (order := [0, 1, 2, 3, 4, 5, 6, 7, 8, 9, 10, 11, 12, 13, 14, 15, 16, 17, 18, 19, 20, 21, 22, 23]) [] mixed (by kernel_rfl) (fun w hw => hw.pick .nil) ?_
   refine Ym ?_
   refine Ym ?_
   refine Yo rfl (BC rfl rfl rfl) ?_
   refine Ym ?_
   refine Flow.split 71 rfl (fun k13_3 => ?_) (fun k13_3 => ?_)
   ·refine Yk ?_
    refine Yk ?_
    refine Yk ?_
    refine Yk ?_
    refine Yk ?_
    refine Yk ?_
    refine Yk ?_
    refine Yk ?_
    refine Yk ?_
    refine Yk ?_
    refine Yk ?_
    refine Yk ?_
    refine Yk ?_
    refine Yk ?_
    refine Yk ?_
    refine Yk ?_
    refine Yk ?_
    refine Yk ?_
    refine Yk ?_
    refine Yo rfl (Bb rfl rfl rfl) ?_
    refine Flow.end rfl ?_
    simp only [zq, zr]
    refine Fin.then ?_
    refine AM rfl ?_
    refine DC.region ?_
    refine Zm ?_
    refine Seq.rel rfl rfl (Ao en183 rfl rfl rfl (fun w' hw => Dw (hrds w' hw).2 (by omega) (fun x hx => by have := hall1 x hx; obtain ⟨h0, h1⟩ := this; omega))) ?_
    rintro v93 _ rfl
    refine Za ?_
    refine Seq.nil ?_
    refine Fin.slcs (i := 0) (xs := aboutL l1) rfl (by rw [BE]; omega) ?_
    rintro A3 c3 rfl hA3
    obtain ⟨ad3, rfl⟩ := hA3 (fun e => by have := congrArg List.length e; rw [BE] at this; simp at this; rw [this] at hx1; simp at hx1)
    obtain ⟨e1, e2⟩ := HT hall1 hx1 hy1
    refine AJ ⟨.slice (some ad3) (aboutL l1).length c3, ad3, aboutL l1, c3, [slc (.slice (some ad3) (aboutL l1).length c3) 3 1 (ints (aboutL l1))], toV es y1, fromV es x1⟩
     ⟨⟨rfl, I8 (by rw [BE]; omega), by rw [BE]; exact hlen, Gh hall1, e1, e2⟩, fun h => (hends.1 h).symm, fun h => ?_⟩ ⟨rfl, rfl, trivial⟩ (.cons 0 rfl .nil)
    obtain ⟨q1, q2⟩ := hends.2 h
    dsimp only
    simp at k13_3
    omega
   ·refine Ym ?_
    refine Ym ?_
    refine Yo rfl (AN rfl rfl rfl) ?_
    refine Ym ?_
    refine Flow.split 75 rfl (fun k13_7 => ?_) (fun k13_7 => ?_)
    ·refine Ym ?_
     refine Ym ?_
     refine Yo rfl (Ah (ad' := ad.add 0) rfl rfl rfl Tryz.underlying44 AL (by omega) (by omega) rfl) ?_
     refine Aj rfl rfl rfl rfl (Ai rfl rfl AI (GL hrds (fun _ h => h) hx1)) ?_
     refine Flow.rel0 rfl rfl rfl rfl (Ao HF rfl rfl rfl (fun w' hw => Dn (hA.keep hw) _)) ?_
     rintro _ rfl
     refine Ym ?_
     refine Ym ?_
     refine Ym ?_
     refine Yo rfl (CL rfl rfl Tryz.underlying44) ?_
     refine Yo rfl (BA rfl rfl rfl (by omega)) ?_
     refine Yo rfl (Ah (ad' := ad.add (l1.length - 1)) rfl rfl rfl Tryz.underlying44 AL (by omega) (by omega) (by rw [show ((l1.length : Int) - 1).toNat = l1.length - 1 by omega])) ?_
     refine Aj rfl rfl rfl rfl (Ai rfl rfl AI (GL hrds (fun _ h => h) hy1)) ?_
     refine Flow.rel0 rfl rfl rfl rfl (Ao FF rfl rfl rfl (fun w' hw => B5 (hA.keep hw) _)) ?_
     rintro _ rfl
     refine Yo rfl (BC rfl rfl rfl) ?_
     refine Yo rfl (Bb rfl rfl rfl) ?_
     refine Yo rfl (Ba rfl rfl rfl) ?_
     refine Flow.end rfl ?_
     simp only [zq, zr]
     refine Fin.then ?_
     refine Zd (fun c13 => ?_) fun c13 => ?_
     ·refine DC.region ?_
      refine Zm ?_
      refine Seq.rel rfl rfl (Ao en183 rfl rfl rfl (fun w' hw => Dw (hrds w' hw).2 (by omega) (fun x hx => by have := hall1 x hx; obtain ⟨h0, h1⟩ := this; omega))) ?_
      rintro v93 _ rfl
      refine Za ?_
      refine Seq.nil ?_
      refine Fin.slcs (i := 0) (xs := aboutL l1) rfl (by rw [BE]; omega) ?_
      rintro A3 c3 rfl hA3
      obtain ⟨ad3, rfl⟩ := hA3 (fun e => by have := congrArg List.length e; rw [BE] at this; simp at this; rw [this] at hx1; simp at hx1)
      obtain ⟨e1, e2⟩ := HT hall1 hx1 hy1
      refine AJ ⟨.slice (some ad3) (aboutL l1).length c3, ad3, aboutL l1, c3, [slc (.slice (some ad3) (aboutL l1).length c3) 3 1 (ints (aboutL l1))], toV es y1, fromV es x1⟩
       ⟨⟨rfl, I8 (by rw [BE]; omega), by rw [BE]; exact hlen, Gh hall1, e1, e2⟩, fun h => (hends.1 h).symm, fun h => ?_⟩ ⟨rfl, rfl, trivial⟩ (.cons 0 rfl .nil)
      obtain ⟨q1, q2⟩ := hends.2 h
      dsimp only
      simp at k13_3
      simp at k13_7; omega
     ·refine DC.skip ?_
      refine AJ ⟨.slice (some ad) l1.length c1, ad, l1, c1, L1, fromV es x1, toV es y1⟩
       ⟨⟨rfl, hrds, hlen, hall1, ⟨x1, hx1, rfl⟩, ⟨y1, hy1, rfl⟩⟩, hends.1, fun h => ?_⟩ ⟨rfl, rfl, trivial⟩ (Pick.all _)
      obtain ⟨q1, q2⟩ := hends.2 h
      dsimp only
      simp at k13_3
      omega
    ·refine Yk ?_
     refine Yk ?_
     refine Yk ?_
     refine Yk ?_
     refine Yk ?_
     refine Yk ?_
     refine Yk ?_
     refine Yk ?_
     refine Yk ?_
     refine Yk ?_
     refine Yk ?_
     refine Yk ?_
     refine Yk ?_
     refine Yk ?_
     refine Yo rfl (Ba rfl rfl rfl) ?_
     refine Yo rfl (Ba rfl rfl rfl) ?_
     refine Flow.end rfl ?_
     simp only [zq, zr]
     refine Fin.then ?_
     refine AT rfl ?_
     refine DC.skip ?_
     refine AJ ⟨.slice (some ad) l1.length c1, ad, l1, c1, L1, fromV es x1, toV es y1⟩
      ⟨⟨rfl, hrds, hlen, hall1, ⟨x1, hx1, rfl⟩, ⟨y1, hy1, rfl⟩⟩, hends.1, fun h => ?_⟩ ⟨rfl, rfl, trivial⟩ (Pick.all _)
     obtain ⟨q1, q2⟩ := hends.2 h
     dsimp only
     simp at k13_3
     omega
  case rest14 =>
   rintro ⟨vl, ad2, l2, c2, L2, a2, b2⟩ ⟨⟨hval, hrds2, hlen2, hall2, ⟨x2, hx2, hxa⟩, ⟨y2, hy2, hyb⟩⟩, hends2⟩
   dsimp only at hval hrds2 hlen2 hall2 hx2 hxa hy2 hyb hends2 ⊢
   subst hval hxa hyb
   refine Zs ?_
   refine Zm ?_
   refine Zm ?_
   refine Zo (Ah (ad' := ad2.add 0) rfl rfl rfl Tryz.underlying44 AL (by omega) (by omega) rfl) ?_
   refine Zu (Ai rfl rfl AI (GL hrds2 (fun _ h => h) hx2)) ?_
   refine Seq.rel0 rfl rfl (Ao FF rfl rfl rfl (fun w' hw => B5 (hA.keep hw) _)) ?_
   rintro _ rfl
   refine Zw (AP (cs := #[_]) rfl rfl Tryz.underlying44 AL BT rfl (by decide) (by decide) rfl rfl) fun g99 => ?_
   refine Za ?_
   refine Zx <| DC.seq <| Zs ?_
   refine Zm ?_
   refine Zn Tryz.underlying44 ?_
   refine Zm ?_
   refine Zx <| DC.block ?_
   refine DC.own (M := slc (.slice (some ⟨g99, 0, none⟩) 1 1) 3 1 (ints [fromV es x2]) :: L2) (fun w hw => BY (len := 1) (cap := 1) rfl (by decide) (by omega) (by omega) rfl rfl hw) ?_
   refine DC.loop (ι := WrK) (fun j => j.i ≤ l2.length)
    (fun j => [(0, .pointer p), (10, j.v), (100, .slice (some ad2) l2.length c2), (101, .int .i64 l2.length), (102, .int .i64 j.i)])
    (fun j => slc j.v 3 1 (ints (fromV es x2 :: (l2.take j.i).map (toV es))) :: L2) (fun j => l2.length - j.i) ⟨0, _⟩ (Nat.zero_le _) ⟨rfl, rfl, rfl, rfl, rfl, trivial⟩ (.cons 0 rfl (Pick.all _)) ?_
   rintro ⟨i, v⟩ hi
   dsimp only at hi ⊢
   refine Zs ?_
   refine Zc ?_
   refine Zx <| DC.seq ?_
   refine Zd (fun c17 => ?_) fun c17 => ?_
   ·have hlt : i < l2.length := by simpa using c17
    obtain ⟨x, hx⟩ : ∃ x, l2[i]? = some x := ⟨_, List.getElem?_eq_getElem hlt⟩
    refine DC.skip <| Fin.then <| DC.seq <| DC.block <| Zs ?_
    refine Zo (Ah (ad' := ad2.add i) rfl rfl rfl Tryz.underlying44 AL (by omega) (by omega) rfl) ?_
    refine Zu (Ai rfl rfl AI (GL hrds2 (fun _ h => h.sub (List.sublist_cons_self ..)) hx)) ?_
    refine Za ?_
    refine Zx <| DC.region ?_
    refine Zm ?_
    refine Zm ?_
    refine Zm ?_
    refine Seq.rel0 rfl rfl (Ao HF rfl rfl rfl (fun w' hw => Dn (hA.keep hw) _)) ?_
    rintro _ rfl
    refine Zw (AP (cs := #[_]) rfl rfl Tryz.underlying44 AL BT rfl (by decide) (by decide) rfl rfl) fun g110 => ?_
    refine Seq.gen rfl rfl (AG rfl rfl rfl Tryz.underlying44 AL Dp BT rfl (by decide) (by decide) (F := L2) (fun w hw => hw.sub (List.sublist_cons_self ..)) (.inl ⟨_, _, rfl, Am rfl⟩) rfl (Bm [_] []) (by simp; omega)) ?_
    rintro v111 _ rfl
    refine Za ?_
    refine Seq.nil <| Fin.inBlock <| Fin.then <| DC.region ?_
    refine Zp ?_
    refine Zm ?_
    refine Seq.nil ?_
    refine Fin.again ⟨i + 1, v111⟩ (by dsimp only; omega) (by dsimp only; omega) ⟨rfl, rfl, rfl, rfl, rfl, trivial⟩ (.cons' 0 rfl (by dsimp only; rw [List.take_add_one, hx]; simp [ints]) (Pick.all _))
   ·refine DC.exit <| Ad <| Ad <| Ag <| Fin.then <| Zs ?_
    refine Zm ?_
    refine Za ?_
    refine Zx <| DC.ret ?_
    have hie : i = l2.length := by simp at c17; omega
    subst hie
    rw [List.take_length]
    refine Fin.weak (E' := [(4, _)]) (L' := [slc v 3 1 (ints (fromV es x2 :: l2.map (toV es)))]) ⟨rfl, trivial⟩ (.cons 0 rfl .nil) ?_
    refine Ak (.inl rfl) rfl rfl ?_
    refine ⟨_, rfl, by simp [hlen2], fun x y hx hy => ?_⟩
    rw [hx0] at hx
    rw [hy0] at hy
    cases hx; cases hy
    refine ⟨fromV es x2, toV es y2, rfl, ?_, hends2⟩
    have : (fromV es x2 :: l2.map (toV es)).length - 1 = (l2.length - 1) + 1 := by simp; omega
    rw [this, List.getElem?_cons_succ, List.getElem?_map, hy2]; rfl
theorem Gd {w0 : World} {K : List Nat} {L : List Chunk} {i t l c : Nat} {ad : Addr} {xs : List Int} (hi : L[i]? = some (slc (.slice (some ad) l c) t 1 (ints xs))) (hf : xs.length ≤ 17592186044416) : Hass w0 K L ad (ints xs) := by
 intro w hw
 obtain ⟨A, cap, e, hr, _⟩ := Cc hw i hi hf
 cases e
 intro j u hj
 obtain ⟨ad', e, hc⟩ := hr j u hj
 cases e; exact hc
theorem JY {N : Int} {es : List Pr} {M : AdjM} {p : Option Addr} {w : World} {e : Nat} (hA : AV w N es M p) (he : e < es.length) :
  Calls Tryz.prog 160 #[.pointer p, .int .i64 e] w (Ret w [] fun r L => L = [slc r 3 1 (ints (chainOf es e))]) := by
 have hV := hA.vld
 have hfew := hV.few
 have hle := DK hV (Cs he)
 have hlo := DK hV (C0 he)
 have hpe := List.length_pos_iff.2 (Dc (es := es) (2 * e))
 have hpo := List.length_pos_iff.2 (Dc (es := es) (2 * e + 1))
 have hlast : (wayOf es (2 * e))[(wayOf es (2 * e)).length - 1]? = some (wI es (2 * e) (wayT es (2 * e))) := by rw [← List.getLast?_eq_getElem?, EW]
 refine At (args := [_, _]) (L := []) Tryz.func160 rfl Tryz.ntmps160 rfl (Own.start _ _) ?_
 refine Zs ?_
 refine Za ?_
 refine Zx <| Zs ?_
 refine Zm ?_
 refine Zm ?_
 refine Zo (Ci rfl rfl rfl (by omega)) ?_
 refine Seq.rel rfl rfl (Ao en180 rfl rfl rfl (fun w' hw => FT (hA.keep hw) (Cs he))) ?_
 rintro v5 _ rfl
 refine Za ?_
 refine Zx <| DC.seq <| DC.seq ?_
 refine DC.slcs (i := 0) (xs := wayOf es (2 * e)) rfl (by omega) ?_
 rintro A5 c5 rfl hA5
 obtain ⟨ad5, rfl⟩ := hA5 (Dc _)
 refine DC.region ?_
 refine Zm ?_
 refine Zm ?_
 refine Zm ?_
 refine Zn Tryz.underlying44 ?_
 refine Zo (BA rfl rfl rfl (by omega)) ?_
 refine Zo (Ah (ad' := ad5.add ((wayOf es (2 * e)).length - 1)) rfl rfl rfl Tryz.underlying44 AL (by omega) (by omega) (by rw [show (((wayOf es (2 * e)).length : Int) - 1).toNat = (wayOf es (2 * e)).length - 1 by omega])) ?_
 refine Zu (Ai rfl rfl AI (BJ (i := 0) rfl hlast (by omega))) ?_
 refine Seq.rel0 rfl rfl (Ao HF rfl rfl rfl (fun w' hw => Dn (hA.keep hw) _)) ?_
 rintro _ rfl
 refine Zm ?_
 refine Zm ?_
 refine Zo (Ci rfl rfl rfl (by omega)) ?_
 refine Seq.rel0 rfl rfl (Ao FF rfl rfl rfl (fun w' hw => B5 (hA.keep hw) _)) ?_
 rintro _ rfl
 refine Zo (AN rfl rfl rfl) ?_
 refine Zm ?_
 refine Seq.split 24 rfl (fun k2_13 => ?_) (fun k2_13 => ?_)
 ·refine Zm ?_
  refine Zm ?_
  refine Zm ?_
  refine Zo (Ci rfl rfl rfl (by omega)) ?_
  refine Seq.rel0 rfl rfl (Ao FF rfl rfl rfl (fun w' hw => B5 (hA.keep hw) _)) ?_
  rintro _ rfl
  refine Seq.rel0 rfl rfl (Ao KT rfl rfl rfl (fun w' hw => CJ (hA.keep hw) _)) ?_
  rintro _ rfl
  refine Zo (AN rfl rfl rfl) ?_
  refine Zt ?_
  refine Zx ?_
  refine Zd (fun c2 => ?_) fun c2 => ?_
  ·refine Zs ?_
   refine Zm ?_
   refine Za ?_
   refine Zx <| DC.ret <| Aa ?_
   refine Fin.weak (E' := [(4, _)]) (L' := [slc (.slice (some ad5) (wayOf es (2 * e)).length c5) 3 1 (ints (wayOf es (2 * e)))]) ⟨rfl, trivial⟩ (.cons 0 rfl .nil) ?_
   refine Ak (.inl rfl) rfl rfl ?_
   have hfree : FreeC es e := ⟨by simpa using k2_13, by simp at c2; unfold degV; omega⟩
   unfold chainOf
   rw [if_pos hfree]
  ·have hfree : ¬ FreeC es e := fun ⟨h1, h2⟩ => by
    simp at c2
    unfold degV at h2
    exact c2 (by exact_mod_cast h2)
   refine DC.skip <| Fin.then <| DC.seq ?_
   have hfree : ¬ FreeC es e := fun ⟨h1, h2⟩ => by
    first
    | (simp at k2_13; exact k2_13 h1)
    | (simp at c2; unfold degV at h2; omega)
   refine DC.region ?_
   refine Zm ?_
   refine Zm ?_
   refine Zo (Ci rfl rfl rfl (by omega)) ?_
   refine Zp ?_
   refine Seq.rel rfl rfl (Ao en180 rfl rfl rfl (fun w' hw => FT (hA.keep hw) (C0 he))) ?_
   rintro v6 _ rfl
   refine Za ?_
   refine Zx <| DC.seq ?_
   refine DC.slcs (i := 0) (xs := wayOf es (2 * e + 1)) rfl (by omega) ?_
   rintro A6 c6 rfl hA6
   obtain ⟨ad6, rfl⟩ := hA6 (Dc _)
   refine DC.region ?_
   refine Zm ?_
   refine Zo (C5 (lo := 1) rfl rfl rfl Tryz.underlying44 AL (by omega)) ?_
   refine Seq.rel rfl rfl (Ao en183 rfl rfl rfl (fun w' hw => Dw ((Fh hw).drop (k := 1) (by omega)) (by rw [List.length_drop]; omega) (fun x hx => by
    have := DL hV (Bx hV (C0 he)).way x (List.mem_of_mem_drop hx)
    obtain ⟨h0, h1⟩ := this; omega))) ?_
   rintro v41 _ rfl
   refine Zm ?_
   refine Seq.gen rfl rfl (AG rfl rfl rfl Tryz.underlying44 AL Dp BT rfl (by decide) (by decide) (fun w hw => hw.pick (.cons 0 rfl .nil)) (.inl ⟨_, _, rfl, Gd (i := 2) rfl (by omega)⟩) (by simp) (Bm _ []) (by simp [BE]; omega)) ?_
   rintro v43 _ rfl
   refine Za ?_
   refine Zx <| DC.ret ?_
   refine Fin.weak (E' := [(4, _)]) (L' := [slc v43 3 1 (ints (aboutL ((wayOf es (2 * e + 1)).drop 1)) ++ ints (wayOf es (2 * e)))]) ⟨rfl, trivial⟩ (.cons 0 rfl .nil) ?_
   refine Ak (.inl rfl) rfl rfl ?_
   unfold chainOf
   rw [if_neg hfree, AQ, List.drop_one]
 ·refine Zk ?_
  refine Zk ?_
  refine Zk ?_
  refine Zk ?_
  refine Zk ?_
  refine Zk ?_
  refine Zk ?_
  refine Zg ?_
  refine Zx ?_
  refine AT rfl ?_
  refine DC.skip <| Fin.then <| DC.seq ?_
  have hfree : ¬ FreeC es e := fun ⟨h1, h2⟩ => by
   first
   | (simp at k2_13; exact k2_13 h1)
   | (simp at c2; unfold degV at h2; omega)
  refine DC.region ?_
  refine Zm ?_
  refine Zm ?_
  refine Zo (Ci rfl rfl rfl (by omega)) ?_
  refine Zp ?_
  refine Seq.rel rfl rfl (Ao en180 rfl rfl rfl (fun w' hw => FT (hA.keep hw) (C0 he))) ?_
  rintro v6 _ rfl
  refine Za ?_
  refine Zx <| DC.seq ?_
  refine DC.slcs (i := 0) (xs := wayOf es (2 * e + 1)) rfl (by omega) ?_
  rintro A6 c6 rfl hA6
  obtain ⟨ad6, rfl⟩ := hA6 (Dc _)
  refine DC.region ?_
  refine Zm ?_
  refine Zo (C5 (lo := 1) rfl rfl rfl Tryz.underlying44 AL (by omega)) ?_
  refine Seq.rel rfl rfl (Ao en183 rfl rfl rfl (fun w' hw => Dw ((Fh hw).drop (k := 1) (by omega)) (by rw [List.length_drop]; omega) (fun x hx => by
   have := DL hV (Bx hV (C0 he)).way x (List.mem_of_mem_drop hx)
   obtain ⟨h0, h1⟩ := this; omega))) ?_
  rintro v41 _ rfl
  refine Zm ?_
  refine Seq.gen rfl rfl (AG rfl rfl rfl Tryz.underlying44 AL Dp BT rfl (by decide) (by decide) (fun w hw => hw.pick (.cons 0 rfl .nil)) (.inl ⟨_, _, rfl, Gd (i := 2) rfl (by omega)⟩) (by simp) (Bm _ []) (by simp [BE]; omega)) ?_
  rintro v43 _ rfl
  refine Za ?_
  refine Zx <| DC.ret ?_
  refine Fin.weak (E' := [(4, _)]) (L' := [slc v43 3 1 (ints (aboutL ((wayOf es (2 * e + 1)).drop 1)) ++ ints (wayOf es (2 * e)))]) ⟨rfl, trivial⟩ (.cons 0 rfl .nil) ?_
  refine Ak (.inl rfl) rfl rfl ?_
  unfold chainOf
  rw [if_neg hfree, AQ, List.drop_one]
open Classical
theorem JQ {w0 w : World} {K : List Nat} {L : List Chunk} {N : Int} {es : List Pr} {M : AdjM} (hw : Own w0 K w L) (hp : Pick L (adjL M)) (hP : AdjP N es M) : AV w N es M (some ⟨M.gp, 0, none⟩) := by
 have h := hw.pick hp
 unfold adjL at h
 have h0 := h.holds _ (List.mem_cons_self ..)
 have h1 := h.holds _ (List.mem_cons_of_mem _ (List.mem_cons_self ..))
 have h2 := h.holds _ (List.mem_cons_of_mem _ (List.mem_cons_of_mem _ (List.mem_cons_self ..)))
 have h3 := h.holds _ (List.mem_cons_of_mem _ (List.mem_cons_of_mem _ (List.mem_cons_of_mem _ (List.mem_cons_self ..))))
 have h4 := h.holds _ (List.mem_cons_of_mem _ (List.mem_cons_of_mem _ (List.mem_cons_of_mem _ (List.mem_cons_of_mem _ (List.mem_cons_self ..)))))
 exact .at ⟨h0, h1, h2, h3, h4⟩ hP
/-- The chains that lie before us are those of the first k edges. -/
structure ChR (es : List Pr) (k : Nat) (cs : RL) : Prop where
 len : cs.length = (selU es k).length
 at' : ∀ (j : Nat) e p, (selU es k)[j]? = some e → cs[j]? = some p → WrtR (endA es e) (endB es e) p.2 ∧ 2 ≤ p.2.length ∧ p.2.length ≤ es.length * 4 + 1
theorem ChR.next {es : List Pr} {k : Nat} {cs : RL} {p : Value × List Int} (h : ChR es k cs) (hs : selU es (k + 1) = selU es k ++ [k]) (hp : WrtR (endA es k) (endB es k) p.2 ∧ 2 ≤ p.2.length ∧ p.2.length ≤ es.length * 4 + 1) : ChR es (k + 1) (cs ++ [p]) := by
 refine ⟨by rw [hs]; simp [h.len], fun j e q hj hq => ?_⟩
 rw [hs] at hj
 by_cases hlt : j < cs.length
 ·rw [List.getElem?_append_left hlt] at hq
  rw [List.getElem?_append_left (by rw [← h.len]; exact hlt)] at hj
  exact h.at' j e q hj hq
 ·rw [List.getElem?_append_right (by omega)] at hq
  rw [List.getElem?_append_right (by rw [← h.len]; omega), ← h.len] at hj
  have : j - cs.length = 0 := by
   have := (List.getElem?_eq_some_iff.1 hq).1
   simp at this; omega
  rw [this] at hj hq
  simp at hj hq
  subst hj hq
  exact hp
structure ChI where
 i : Nat
 f : Nat → Bool
 cs : RL
 v : Value
structure ChJ where
 j : Nat
 g : Nat → Bool
theorem JV {N : Int} {es : List Pr} {va : Value} {w : World} (hg : PrV w va es) (hV : Vld N es) :
  Calls Tryz.prog 127 #[.agg #[.int .i64 N, va]] w (Ret w [] fun r M => ∃ v cs, r = .tuple #[v, .int .i64 0] ∧ ChR es es.length cs ∧ M = slc v 44 1 (rowsV cs) :: rowsC 3 cs) := by
 obtain ⟨A, cap, rfl, hr, hlc, hcm, hle⟩ := hg
 have hfew := hV.few
 refine At (args := [_]) (L := []) Tryz.func127 rfl Tryz.ntmps127 rfl (Own.start _ _) ?_
 refine Zs ?_
 refine Zw (AR rfl rfl rfl) fun g1 => ?_
 refine Za ?_
 refine Za ?_
 refine Zx <| Zs ?_
 refine Zu (Aw (vs := [_, _]) rfl rfl Bo Bh rfl (Am rfl)) ?_
 refine Seq.rel rfl rfl (Ao en125 rfl rfl rfl (fun w' hw => IV N es A cap w' (hr.keep0 hw) (by omega))) ?_
 intro v14 L14 hC14
 obtain ⟨_, M, hP, rfl, rfl⟩ := hC14.resolve_left (fun h => h.1 hV)
 simp only [adjL, List.cons_append, List.nil_append]
 refine Zm ?_
 refine Ze ?_
 refine Ze ?_
 refine Za ?_
 refine Za ?_
 refine Zx <| DC.seq <| Zs ?_
 refine Zm ?_
 refine Zo (BB rfl rfl rfl) ?_
 refine Zx ?_
 refine Zd (fun c2 => ?_) fun c2 => ?_
 ·refine Zs ?_
  refine Zm ?_
  refine Za ?_
  refine Za ?_
  refine Zx <| DC.ret <| Aa ?_
  refine AK (.inl rfl) rfl rfl rfl ?_
  simp at c2
 ·refine DC.skip <| Fin.then <| Zs ?_
  refine Zf AS ?_
  refine Zl Bj ?_
  refine Zn Tryz.underlying22 ?_
  refine Zw (B1 (k := es.length) rfl rfl rfl Tryz.underlying188 FS by4 ze4 rfl (by omega) (by omega) (DA _)) fun g23 => ?_
  refine Za ?_
  refine Zx <| Zs ?_
  refine Za ?_
  refine Zx <| DC.seq <| Zs ?_
  refine Zf AS ?_
  refine Zl Bj ?_
  refine Zn Tryz.underlying22 ?_
  refine Zm ?_
  refine Zx <| DC.block ?_
  refine DC.own (fun w hw => Bd (t := 44) (m := 1) hw) ?_
  refine DC.loop (ι := ChI) (fun j => j.i ≤ es.length ∧ ChR es j.i j.cs ∧ ∀ x, x < es.length → (j.f x = true ↔ ∃ e, e ∈ selU es j.i ∧ ∃ y, y ∈ chainOf es e ∧ y / 2 = x))
   (fun j => [(4, .pointer (some ⟨M.gp, 0, none⟩)), (6, .slice (some ⟨g23, 0, none⟩) es.length es.length), (7, j.v), (25, .slice A es.length cap), (26, .int .i64 es.length), (27, .int .i64 j.i)])
   (fun j => slc j.v 44 1 (rowsV j.cs) :: blk g23 4 (bls es.length j.f).toArray :: blk M.gp 234 #[sl M.g0 M.fr, sl M.g1 M.st, sl M.g2 M.ou, sl M.g3 M.pl] :: blk M.g0 3 (ints M.fr).toArray :: blk M.g1 3 (ints M.st).toArray :: blk M.g2 3 (ints M.ou).toArray :: blk M.g3 3 (ints M.pl).toArray :: rowsC 3 j.cs) (fun j => es.length - j.i) ⟨0, fun _ => false, [], .slice none 0 0⟩
   ⟨Nat.zero_le _, ⟨rfl, fun j e p h _ => by simp [selU] at h⟩, fun x _ => ⟨fun h => by simp at h, fun ⟨e, h, _⟩ => by simp [selU] at h⟩⟩ ⟨rfl, rfl, rfl, rfl, rfl, rfl, trivial⟩ (.cons 0 rfl (.cons 0 rfl (.cons 0 rfl (.cons 0 rfl (.cons 0 rfl (.cons 0 rfl (.cons 0 rfl .nil))))))) ?_
  rintro ⟨i, f, cs, v7⟩ ⟨hi, hch, hf⟩
  dsimp only at hi hch hf ⊢
  refine Zs ?_
  refine Zc ?_
  refine Zx <| DC.seq ?_
  refine Zd (fun c7 => ?_) fun c7 => ?_
  ·have hlt : i < es.length := by simpa using c7
   have hcsl : cs.length ≤ i := by rw [hch.len]; exact Ek i
   refine DC.skip <| Fin.then <| DC.seq <| DC.block <| Zs ?_
   refine Zm ?_
   refine Za ?_
   refine Zx <| DC.seq <| Zs ?_
   refine Zm ?_
   refine Zm ?_
   refine Zi Tryz.underlying188 FS ?_
   refine Zu (Ai rfl rfl Id (Be (D5 f hlt))) ?_
   refine Zx ?_
   refine Zd (fun c9 => ?_) fun c9 => ?_
   ·refine DC.exit <| Ad <| Ag <| Fin.then <| DC.region ?_
    refine Zp ?_
    refine Zm ?_
    refine Seq.nil ?_
    have hsel : selU es (i + 1) = selU es i := by
     show (if _ then _ else _) = _
     rw [if_pos ((hf i hlt).1 c9)]
    refine Fin.again ⟨i + 1, f, cs, v7⟩ (by dsimp only; omega) ⟨by dsimp only; omega, ⟨by dsimp only; rw [hsel]; exact hch.len, by dsimp only; rw [hsel]; exact hch.at'⟩, by dsimp only; rw [hsel]; exact hf⟩ ⟨rfl, rfl, rfl, rfl, rfl, rfl, trivial⟩ (Pick.all _)
   ·refine DC.skip <| Fin.then <| Zs ?_
    refine Zm ?_
    refine Zm ?_
    refine Seq.rel rfl rfl (Ao en160 rfl rfl rfl (fun w' hw => JY (JQ hw (.cons 2 rfl (.cons 2 rfl (.cons 2 rfl (.cons 2 rfl (.cons 2 rfl .nil))))) hP) hlt)) ?_
    rintro v9 _ rfl
    refine Za ?_
    refine Zx <| DC.seq <| DC.seq ?_
    have hcl := chain_len hV hlt
    have hsel : selU es (i + 1) = selU es i ++ [i] := by
     show (if _ then _ else _) = _
     have c9' : f i = false := c9
     rw [if_neg (fun h => by rw [(hf i hlt).2 h] at c9'; cases c9')]
    refine DC.slcs (i := 0) (xs := chainOf es i) rfl (by omega) ?_
    rintro A9 c9' rfl hA9
    obtain ⟨ad9, rfl⟩ := hA9 (FK i)
    refine DC.region ?_
    refine Zm ?_
    refine Zn Tryz.underlying44 ?_
    refine Zm ?_
    refine Zx <| DC.block ?_
    refine DC.loop (ι := ChJ) (fun j => j.j ≤ (chainOf es i).length ∧ ∀ x, x < es.length → (j.g x = true ↔ f x = true ∨ ∃ (q : Nat) (y : Int), q < j.j ∧ (chainOf es i)[q]? = some y ∧ y / 2 = x))
     (fun j => [(4, .pointer (some ⟨M.gp, 0, none⟩)), (6, .slice (some ⟨g23, 0, none⟩) es.length es.length), (7, v7), (9, .slice (some ad9) (chainOf es i).length c9'), (25, .slice A es.length cap), (26, .int .i64 es.length), (27, .int .i64 i), (37, .slice (some ad9) (chainOf es i).length c9'), (38, .int .i64 (chainOf es i).length), (39, .int .i64 j.j)])
     (fun j => slc (.slice (some ad9) (chainOf es i).length c9') 3 1 (ints (chainOf es i)) :: slc v7 44 1 (rowsV cs) :: blk g23 4 (bls es.length j.g).toArray :: blk M.gp 234 #[sl M.g0 M.fr, sl M.g1 M.st, sl M.g2 M.ou, sl M.g3 M.pl] :: blk M.g0 3 (ints M.fr).toArray :: blk M.g1 3 (ints M.st).toArray :: blk M.g2 3 (ints M.ou).toArray :: blk M.g3 3 (ints M.pl).toArray :: rowsC 3 cs) (fun j => (chainOf es i).length - j.j) ⟨0, f⟩
     ⟨Nat.zero_le _, fun x _ => ⟨.inl, fun h => h.elim id fun ⟨_, _, h, _⟩ => absurd h (Nat.not_lt_zero _)⟩⟩ ⟨rfl, rfl, rfl, rfl, rfl, rfl, rfl, rfl, rfl, rfl, trivial⟩ (Pick.all _) ?_
    rintro ⟨j, g⟩ ⟨hj, hgx⟩
    dsimp only at hj hgx ⊢
    refine Zs ?_
    refine Zc ?_
    refine Zx <| DC.seq ?_
    refine Zd (fun c12 => ?_) fun c12 => ?_
    ·have hjl : j < (chainOf es i).length := by simpa using c12
     obtain ⟨y, hy⟩ : ∃ y, (chainOf es i)[j]? = some y := ⟨_, List.getElem?_eq_getElem hjl⟩
     obtain ⟨hy0, hy1⟩ := IT hV hlt y (List.mem_of_getElem? hy)
     refine DC.skip <| Fin.then <| DC.seq <| DC.block <| Zs ?_
     refine Zo (Ah (ad' := ad9.add j) rfl rfl rfl Tryz.underlying44 AL (by omega) (by omega) rfl) ?_
     refine Zu (Ai rfl rfl AI (BJ (i := 0) rfl hy (by omega))) ?_
     refine Za ?_
     refine Zx <| DC.region ?_
     refine Zm ?_
     refine Zm ?_
     refine Zo (Iu rfl rfl rfl (by omega) (by omega)) ?_
     refine Zi Tryz.underlying188 FS ?_
     refine Zy (AF (cs' := (bls es.length (updB g (y / 2).toNat true)).toArray) rfl rfl rfl FS rfl (by simp; omega) (D4 g true)) ?_
     refine Seq.nil <| Fin.inBlock <| Fin.then <| DC.region ?_
     refine Zp ?_
     refine Zm ?_
     refine Seq.nil ?_
     refine Fin.again ⟨j + 1, updB g (y / 2).toNat true⟩ (by dsimp only; omega) ⟨by dsimp only; omega, fun x hx => ?_⟩ ⟨rfl, rfl, rfl, rfl, rfl, rfl, rfl, rfl, rfl, rfl, trivial⟩ (Pick.all _)
     dsimp only
     unfold updB
     split
     ·rename_i e; subst e
      simp only [true_iff]
      exact .inr ⟨j, y, by omega, hy, by omega⟩
     ·rename_i e
      rw [hgx x hx]
      constructor
      ·rintro (h1 | ⟨q, z, h1, h2, h3⟩)
       ·exact .inl h1
       ·exact .inr ⟨q, z, by omega, h2, h3⟩
      ·rintro (h1 | ⟨q, z, h1, h2, h3⟩)
       ·exact .inl h1
       ·rcases Nat.lt_succ_iff_lt_or_eq.1 h1 with h1 | rfl
        ·exact .inr ⟨q, z, h1, h2, h3⟩
        ·rw [hy] at h2; cases h2
         exact absurd (by omega) e
    ·refine DC.exit <| Ad <| Ad <| Ag <| Fin.then <| DC.region ?_
     refine Zm ?_
     refine Zm ?_
     refine Zm ?_
     refine Seq.rel rfl rfl (Ao en161 rfl rfl rfl (fun w' hw => HX (JQ hw (.cons 3 rfl (.cons 3 rfl (.cons 3 rfl (.cons 3 rfl (.cons 3 rfl .nil))))) hP) (Fh hw) (FK i) (IT hV hlt) (chain_link hV hlt) (by omega))) ?_
     rintro v51 _ ⟨c, rfl, hclen, hwr⟩
     simp only [List.cons_append, List.nil_append]
     refine Seq.slcs (i := 0) (xs := c) rfl (by omega) ?_
     rintro A51 c51 rfl _
     refine Zw (AP (cs := #[_]) rfl rfl Tryz.underlying25 Br CV rfl (by decide) (by decide) rfl rfl) fun g52 => ?_
     refine Seq.gen rfl rfl (AG rfl rfl rfl Tryz.underlying25 Br HN CV rfl (by decide) (by decide) (news := [.slice A51 c.length c51]) (k := 1) (fun w hw => hw.perm (AH (i := 3) rfl).symm) (.inl ⟨_, _, rfl, Am rfl⟩) rfl (fun u hu => by rw [List.mem_singleton.1 hu]; rfl) (by simp; omega)) ?_
     rintro v53 _ rfl
     refine Za ?_
     refine Seq.nil <| Fin.inBlock <| Fin.then <| DC.region ?_
     refine Zp ?_
     refine Zm ?_
     refine Seq.nil ?_
     have hjl : j = (chainOf es i).length := by simp at c12; omega
     subst hjl
     refine Fin.own (M := slc v53 44 1 (rowsV (cs ++ [(.slice A51 c.length c51, c)])) :: blk g23 4 (bls es.length g).toArray :: blk M.gp 234 #[sl M.g0 M.fr, sl M.g1 M.st, sl M.g2 M.ou, sl M.g3 M.pl] :: blk M.g0 3 (ints M.fr).toArray :: blk M.g1 3 (ints M.st).toArray :: blk M.g2 3 (ints M.ou).toArray :: blk M.g3 3 (ints M.pl).toArray :: rowsC 3 (cs ++ [(.slice A51 c.length c51, c)])) (fun w hw => ?_) ?_
     ·have e1 : rowsV (cs ++ [(.slice A51 c.length c51, c)]) = rowsV cs ++ [.slice A51 c.length c51] := by simp [rowsV]
      have e2 : rowsC 3 (cs ++ [(.slice A51 c.length c51, c)]) = rowsC 3 cs ++ [slc (.slice A51 c.length c51) 3 1 (ints c)] := by simp [rowsC]
      rw [e1, e2]
      have h1 := hw.sub (L' := slc v53 44 1 (rowsV cs ++ [.slice A51 c.length c51]) :: slc (.slice A51 c.length c51) 3 1 (ints c) :: blk g23 4 (bls es.length g).toArray :: blk M.gp 234 #[sl M.g0 M.fr, sl M.g1 M.st, sl M.g2 M.ou, sl M.g3 M.pl] :: blk M.g0 3 (ints M.fr).toArray :: blk M.g1 3 (ints M.st).toArray :: blk M.g2 3 (ints M.ou).toArray :: blk M.g3 3 (ints M.pl).toArray :: rowsC 3 cs) ((((List.Sublist.refl _).cons _).cons_cons _ |>.cons _).cons_cons _)
      refine h1.perm (List.Perm.cons _ ?_)
      have := List.perm_append_comm (l₁ := blk g23 4 (bls es.length g).toArray :: blk M.gp 234 #[sl M.g0 M.fr, sl M.g1 M.st, sl M.g2 M.ou, sl M.g3 M.pl] :: blk M.g0 3 (ints M.fr).toArray :: blk M.g1 3 (ints M.st).toArray :: blk M.g2 3 (ints M.ou).toArray :: blk M.g3 3 (ints M.pl).toArray :: rowsC 3 cs) (l₂ := [slc (.slice A51 c.length c51) 3 1 (ints c)])
      simpa using this
     have hca : (chainOf es i)[0]? = some (((chainOf es i)[0]?).getD (-1)) := by
      obtain ⟨x, hx⟩ : ∃ x, (chainOf es i)[0]? = some x := ⟨_, List.getElem?_eq_getElem (List.length_pos_iff.2 (FK i))⟩
      rw [hx]; rfl
     have hcz : (chainOf es i)[(chainOf es i).length - 1]? = some (wI es (2 * i) (wayT es (2 * i))) := by rw [← List.getLast?_eq_getElem?, chain_last]
     have hcp := List.length_pos_iff.2 (FK (es := es) i)
     refine Fin.again ⟨i + 1, g, cs ++ [(.slice A51 c.length c51, c)], v53⟩ (by dsimp only; omega) ⟨by dsimp only; omega, hch.next hsel ⟨hwr _ _ hca hcz, by dsimp only; omega, by dsimp only; omega⟩, fun x hx => ?_⟩ ⟨rfl, rfl, rfl, rfl, rfl, rfl, trivial⟩ (Pick.all _)
     dsimp only
     rw [hgx x hx, hf x hx, hsel]
     constructor
     ·rintro (⟨e, he, h⟩ | ⟨q, y, _, hq, hy⟩)
      ·exact ⟨e, by simp [he], h⟩
      ·exact ⟨i, by simp, y, List.mem_of_getElem? hq, hy⟩
     ·rintro ⟨e, he, y, hy, hyx⟩
      rcases List.mem_append.1 he with he | he
      ·exact .inl ⟨e, he, y, hy, hyx⟩
      ·simp at he; subst he
       obtain ⟨q, hq⟩ := List.mem_iff_getElem?.1 hy
       exact .inr ⟨q, y, (List.getElem?_eq_some_iff.1 hq).1, hq, hyx⟩
  ·refine DC.exit <| Ad <| Ad <| Ag <| Fin.then <| Zs ?_
   refine Zm ?_
   refine Za ?_
   refine Za ?_
   refine Zx <| DC.ret ?_
   have hie : i = es.length := by simp at c7; omega
   subst hie
   refine Fin.own (M := slc v7 44 1 (rowsV cs) :: rowsC 3 cs) (fun w hw => hw.sub (((((((List.Sublist.refl _).cons _).cons _).cons _).cons _).cons _).cons _ |>.cons_cons _)) ?_
   refine Fin.weak (E' := [(2, _), (3, _)]) ⟨rfl, rfl, trivial⟩ (Pick.all _) ?_
   refine AK (.inl rfl) rfl rfl rfl ?_
   exact ⟨v7, cs, rfl, hch, rfl⟩
end Go.Fl

namespace Go.Fl
open Go
section
variable {κ : Type} [DecidableEq κ]
variable {P : Program} {w0 w : World} {K : List Nat} {n : Nat} {ds : List Deferred} {E : Env} {L : List Chunk} {o : Oper} {x y : Operand} {enc : κ → Value} {m : List (κ × Value)} {g : Nat}
theorem v_lenMap {t kt et : TypeId} (i : Nat) (hi : L[i]? = some (mpc enc g m)) (ho : o.op = .call ⟨.builtin .len, #[x], #[t]⟩) (hx : ev n E x = some (.map (some g))) (ht : P.underlying t = some (.map kt et)) :
  Val P w0 K n ds E L o (.int .i64 m.length) := by
 intro a w ha hw
 obtain ⟨es, clock, h1, h2, _⟩ := EK i hi hw
 have hg : (getObj g).run P w = .ok (.map es clock) w := by simp [getObj, Sem.run, h1]
 have hl : es.size = m.length := by have := congrArg List.length h2; simpa using this
 simp [execOp, ho, resolve, ha.ev hx, invoke, builtin, Builtin.len_, run_underlying ht, hg, goInt, hl]
theorem Km {t e sz len : Nat} {ad ad' : Addr} {k : IntKind} {i : Int} (ho : o.op = .indexAddr t x y) (hx : ev n E x = some (.pointer (some ad))) (hy : ev n E y = some (.int k i))
  (ht : P.underlying t = some (.array len e)) (hm : sizeT P e = some sz) (h0 : 0 ≤ i) (h1 : i < len) (he : ad.add (i.toNat * sz) = ad') : Pur P n ds E o (.pointer (some ad')) := by
 intro a w ha; subst he
 simp [execOp, ho, ha.ev hx, ha.ev hy, Instr.indexAt, asIntOf, Instr.sureAddr, run_underlying ht, BG hm, h0, h1]
theorem Ji {t e sz len : Nat} {ps : Array (Nat × Operand)} {vs : List (Nat × Value)} {zv : Value} {zs l : List Value} {cs : Array Value} (ho : o.op = .build t ps) (hp : evps n E ps.toList = some vs)
  (ht : P.underlying t = some (.array len e)) (hm : sizeT P e = some sz) (hz : zeroT P t = some zv) (hzs : zv.cells.toList = zs) (hf : fillL (fun i => some (i * sz, sz)) zs vs = some l) (hc : l.toArray = cs) : Pur P n ds E o (.agg cs) := by
 intro a w ha
 subst hc hzs
 have h1 : (ps.map fun (p : Nat × Operand) => (p.1, a.eval p.2)) = vs.toArray := by
  apply Array.ext'; rw [Array.toList_map]; exact EO ha hp
 have h2 : (ps.map fun (i, x) => (i, a.eval x)) = vs.toArray := h1
 have h3 := GN hf
 simp only [execOp, ho, h2]
 simp [Instr.build, EH hz, run_underlying ht, BG hm, h3]
theorem B6 {P : Program} {w0 : World} {K : List Nat} {n : Nat} {E : Env} {L : List Chunk} {u u2 : Value} {fn : Func} {p q s : Tmp} {ty : TypeId} {g t : Nat} {cs : Array Value} {C : Value → List Chunk → Prop} {e : Exit} (he : e = .ret ∨ e = .normal) (hr : fn.results = #[.cell p ty, .tmp q, .tmp s])
  (hv : ev n E (.tmp p) = some (.pointer (some ⟨g, 0, none⟩))) (hq : ev n E (.tmp q) = some u) (hq2 : ev n E (.tmp s) = some u2) [h : Find L g t cs] (ht : aggT P ty = some true) (hs : sizeT P ty = some cs.size)
  (hR : ∃ L', (∀ w, Own w0 K w L → Own w0 K w L') ∧ C (.tuple #[.agg cs, u, u2]) L') : Fin w0 K n [] (bodyPost P fn (Ret w0 K C) e) E L := by
 intro a w ha hO
 obtain ⟨L', hL, hC⟩ := hR
 have hg := hO.holds _ h.mem
 have hp : a.tmps[p]?.getD undef = .pointer (some ⟨g, 0, none⟩) := by have := ha.ev hv; simpa [Act.eval] using this
 have hq' : a.tmps[q]?.getD undef = u := by have := ha.ev hq; simpa [Act.eval] using this
 have hq2' : a.tmps[s]?.getD undef = u2 := by have := ha.ev hq2; simpa [Act.eval] using this
 have h1 : a.defers = [] ∧ ∃ v, (results fn a.tmps).run P w = .ok v w ∧ Ret w0 K C (.returned v) w := by
  refine ⟨ha.defers, _, ?_, .tuple #[.agg cs, u, u2], L', rfl, hC, hL w hO⟩
  simp [results, hr, hp, hq', hq2', asAddr, EI hg ht hs]
 rcases he with rfl | rfl <;> exact h1
end
end Go.Fl

namespace Go.Fl
open Go Go.Proofs
open Classical
theorem EC (es : List Pr) (i : Nat) : brV es (i + 1) = brV es i ++ if degV es (i : Int) ≠ 0 ∧ degV es (i : Int) ≠ 2 then [(i : Int)] else [] := by
 unfold brV
 rw [List.range_succ, List.filter_append, List.map_append]
 congr 1
 by_cases h : degV es (i : Int) ≠ 0 ∧ degV es (i : Int) ≠ 2 <;> simp [h]
theorem brV_len (es : List Pr) (i : Nat) : (brV es i).length ≤ i := by
 unfold brV
 rw [List.length_map]
 have := List.length_filter_le (fun v : Nat => decide (degV es (v : Int) ≠ 0 ∧ degV es (v : Int) ≠ 2)) (List.range i)
 simpa using this
theorem K7 {es : List Pr} {i n : Nat} (h : i ≤ n) {x : Int} (hx : x ∈ brV es i) : x ∈ brV es n := by
 unfold brV at hx ⊢
 obtain ⟨v, hv, rfl⟩ := List.mem_map.1 hx
 obtain ⟨h1, h2⟩ := List.mem_filter.1 hv
 exact List.mem_map.2 ⟨v, List.mem_filter.2 ⟨List.mem_range.2 (by have := List.mem_range.1 h1; omega), h2⟩, rfl⟩
structure DgI where
 i : Nat
 d : Nat
 v : Value
theorem Ht {n : Nat} {es : List Pr} {M : AdjM} {p : Option Addr} {w : World} (hA : AV w n es M p) :
  Calls Tryz.prog 126 #[.pointer p] w (Ret w [] fun r L =>
   (∃ A c d, r = .tuple #[.slice A (brV es n).length c, .int .i64 (d : Nat)] ∧ L = [slc (.slice A (brV es n).length c) 3 1 (ints (brV es n))] ∧ ∀ u, u ∈ brV es n → degV es u = d) ∨
   (r = .tuple #[.slice none 0 0, .int .i64 0] ∧ L = [] ∧ ¬ ∃ d, ∀ u, u ∈ brV es n → degV es u = d)) := by
 have hV := hA.vld
 have hn := hV.hi
 refine At (args := [_]) (L := []) Tryz.func126 rfl Tryz.ntmps126 rfl (Own.start _ _) ?_
 refine Zs ?_
 refine Za ?_
 refine Za ?_
 refine Zx <| Zs ?_
 refine Za ?_
 refine Zx <| Zs ?_
 refine Za ?_
 refine Zx <| DC.seq <| Zs ?_
 refine Zm ?_
 refine Seq.rel0 rfl rfl (Ao en158 rfl rfl rfl (fun w' hw => N_calls (hA.keep hw))) ?_
 rintro _ rfl
 refine Zm ?_
 refine Zx <| DC.block ?_
 refine DC.own (fun w hw => Bd (t := 3) (m := 1) hw) ?_
 refine DC.loop (ι := DgI) (fun j => j.i ≤ n ∧ (∀ u, u ∈ brV es j.i → degV es u = j.d) ∧ (j.d = 0 → brV es j.i = []) ∧ (j.d ≠ 0 → brV es j.i ≠ []))
  (fun j => [(0, .pointer p), (4, j.v), (5, .int .i64 j.d), (9, .int .i64 n), (10, .int .i64 j.i)])
  (fun j => [slc j.v 3 1 (ints (brV es j.i))]) (fun j => n - j.i) ⟨0, 0, .slice none 0 0⟩ ⟨Nat.zero_le _, by simp [brV], fun _ => by simp [brV], fun h => absurd rfl h⟩ ⟨rfl, rfl, rfl, rfl, rfl, trivial⟩ (.cons 0 rfl .nil) ?_
 rintro ⟨i, d, v4⟩ ⟨hi, hd, hd0, hd1⟩
 dsimp only at hi hd hd0 hd1 ⊢
 refine Zs ?_
 refine Zc ?_
 refine Zx <| DC.seq ?_
 refine Zd (fun c4 => ?_) fun c4 => ?_
 ·have hlt : i < n := by simpa using c4
  have hbl := brV_len es i
  refine DC.skip <| Fin.then <| DC.seq <| DC.block <| Zs ?_
  refine Zm ?_
  refine Za ?_
  refine Zx <| Zs ?_
  refine Zm ?_
  refine Zm ?_
  refine Seq.rel0 rfl rfl (Ao KT rfl rfl rfl (fun w' hw => CJ (hA.keep hw) _)) ?_
  rintro _ rfl
  refine Za ?_
  refine Zx <| DC.block <| Zs ?_
  refine Zm ?_
  refine Zo (AN rfl rfl rfl) ?_
  refine Zm ?_
  refine Seq.split 19 rfl (fun k8_2 => ?_) (fun k8_2 => ?_)
  ·refine Zk ?_
   refine Zk ?_
   refine Zt ?_
   refine Za ?_
   refine Zx ?_
   refine AM rfl ?_
   refine DC.skip <| Fin.inBlock <| Fin.inBlock <| Fin.then <| DC.region ?_
   refine Zp ?_
   refine Zm ?_
   refine Seq.nil ?_
   have hb : brV es (i + 1) = brV es i := by
    have : degV es (i : Int) = 0 := by unfold degV; simp at k8_2; simp [k8_2]
    rw [EC, if_neg (by omega), List.append_nil]
   refine Fin.again ⟨i + 1, d, v4⟩ (by dsimp only; omega) ⟨by dsimp only; omega, by dsimp only; rw [hb]; exact hd, by dsimp only; rw [hb]; exact hd0, by dsimp only; rw [hb]; exact hd1⟩ ⟨rfl, rfl, rfl, rfl, rfl, trivial⟩ (.cons' 0 rfl (by dsimp only; rw [hb]) .nil)
  ·refine Zm ?_
   refine Zo (AN rfl rfl rfl) ?_
   refine Zg ?_
   refine Za ?_
   refine Zx ?_
   refine Zd (fun c8 => ?_) fun c8 => ?_
   ·refine DC.skip <| Fin.inBlock <| Fin.inBlock <| Fin.then <| DC.region ?_
    refine Zp ?_
    refine Zm ?_
    refine Seq.nil ?_
    have hb : brV es (i + 1) = brV es i := by
     have : degV es (i : Int) = 2 := by unfold degV; simp at c8; omega
     rw [EC, if_neg (by omega), List.append_nil]
    refine Fin.again ⟨i + 1, d, v4⟩ (by dsimp only; omega) ⟨by dsimp only; omega, by dsimp only; rw [hb]; exact hd, by dsimp only; rw [hb]; exact hd0, by dsimp only; rw [hb]; exact hd1⟩ ⟨rfl, rfl, rfl, rfl, rfl, trivial⟩ (.cons' 0 rfl (by dsimp only; rw [hb]) .nil)
   ·refine Zs ?_
    refine Zm ?_
    refine Zo (AN rfl rfl rfl) ?_
    refine Zm ?_
    refine Seq.split 26 rfl (fun k9_2 => ?_) (fun k9_2 => ?_)
    ·refine Zk ?_
     refine Zk ?_
     refine Zk ?_
     refine Zt ?_
     refine Za ?_
     refine Zx ?_
     refine AM rfl ?_
     refine DC.region ?_
     refine Zm ?_
     refine Zm ?_
     refine Zw (AP (cs := #[_]) rfl rfl Tryz.underlying44 AL BT rfl (by decide) (by decide) rfl rfl) fun g33 => ?_
     refine Seq.gen rfl rfl (AG rfl rfl rfl Tryz.underlying44 AL Dp BT rfl (by decide) (by decide) (fun w hw => hw.pick (.cons 1 rfl .nil)) (.inl ⟨_, _, rfl, Am rfl⟩) rfl (Bm [_] []) (by simp; omega)) ?_
     rintro v34 _ rfl
     have hne : degV es (i : Int) ≠ 0 ∧ degV es (i : Int) ≠ 2 := by
      have h1 : ¬ (((outs es (i : Int)).length : Int) = 0) := by simpa using k8_2
      have h2 : ¬ (((outs es (i : Int)).length : Int) = 2) := by simpa using c8
      unfold degV
      omega
     refine Zm ?_
     refine Za ?_
     refine Za ?_
     refine Seq.nil <| Fin.inBlock <| Fin.inBlock <| Fin.then <| DC.region ?_
     refine Zp ?_
     refine Zm ?_
     refine Seq.nil ?_
     have hb : brV es (i + 1) = brV es i ++ [(i : Int)] := by rw [EC, if_pos hne]
     refine Fin.again ⟨i + 1, degV es (i : Int), v34⟩ (by dsimp only; omega) ⟨by dsimp only; omega, ?_, fun h => absurd h hne.1, fun _ => by dsimp only; rw [hb]; simp⟩ ⟨rfl, rfl, rfl, rfl, rfl, trivial⟩ (.cons' 0 rfl (by dsimp only; rw [hb, AQ]) .nil)
     dsimp only
     have hd00 : d = 0 := by simp at k9_2; omega
     rw [hb, hd0 hd00]
     intro u hu
     simp at hu; subst hu; rfl
    ·refine Zm ?_
     refine Zm ?_
     refine Zo (AN rfl rfl rfl) ?_
     refine Zg ?_
     refine Za ?_
     refine Zx ?_
     refine Zd (fun c9 => ?_) fun c9 => ?_
     ·refine DC.region ?_
      refine Zm ?_
      refine Zm ?_
      refine Zw (AP (cs := #[_]) rfl rfl Tryz.underlying44 AL BT rfl (by decide) (by decide) rfl rfl) fun g33 => ?_
      refine Seq.gen rfl rfl (AG rfl rfl rfl Tryz.underlying44 AL Dp BT rfl (by decide) (by decide) (fun w hw => hw.pick (.cons 1 rfl .nil)) (.inl ⟨_, _, rfl, Am rfl⟩) rfl (Bm [_] []) (by simp; omega)) ?_
      rintro v34 _ rfl
      have hne : degV es (i : Int) ≠ 0 ∧ degV es (i : Int) ≠ 2 := by
       have h1 : ¬ (((outs es (i : Int)).length : Int) = 0) := by simpa using k8_2
       have h2 : ¬ (((outs es (i : Int)).length : Int) = 2) := by simpa using c8
       unfold degV
       omega
      refine Zm ?_
      refine Za ?_
      refine Za ?_
      refine Seq.nil <| Fin.inBlock <| Fin.inBlock <| Fin.then <| DC.region ?_
      refine Zp ?_
      refine Zm ?_
      refine Seq.nil ?_
      have hb : brV es (i + 1) = brV es i ++ [(i : Int)] := by rw [EC, if_pos hne]
      refine Fin.again ⟨i + 1, degV es (i : Int), v34⟩ (by dsimp only; omega) ⟨by dsimp only; omega, ?_, fun h => absurd h hne.1, fun _ => by dsimp only; rw [hb]; simp⟩ ⟨rfl, rfl, rfl, rfl, rfl, trivial⟩ (.cons' 0 rfl (by dsimp only; rw [hb, AQ]) .nil)
      dsimp only
      have hdd : d = degV es (i : Int) := by unfold degV; simp at c9; omega
      rw [hb]
      intro u hu
      rcases List.mem_append.1 hu with hu | hu
      ·rw [hd u hu, hdd]
      ·simp at hu; subst hu; rfl
     ·refine Zs ?_
      refine Za ?_
      refine Za ?_
      refine Zx <| DC.ret <| Ae <| Ae <| Aa <| Aa <| Ae <| Aa ?_
      refine Fin.weak (E' := [(2, _), (3, _)]) ⟨rfl, rfl, trivial⟩ .nil ?_
      refine AK (.inl rfl) rfl rfl rfl ?_
      refine .inr ⟨rfl, rfl, ?_⟩
      rintro ⟨d', hd'⟩
      have h0 : d ≠ 0 := by simp at k9_2; omega
      obtain ⟨u, hu⟩ := List.exists_mem_of_ne_nil _ (hd1 h0)
      have hb : brV es (i + 1) = brV es i ++ [(i : Int)] := by
       rw [EC, if_pos]
       have h1 : ¬ (((outs es (i : Int)).length : Int) = 0) := by simpa using k8_2
       have h2 : ¬ (((outs es (i : Int)).length : Int) = 2) := by simpa using c8
       unfold degV
       omega
      have e1 := hd' u (K7 hi hu)
      have e2 := hd' i (K7 (i := i + 1) (by omega) (by rw [hb]; simp))
      have e3 := hd u hu
      unfold degV at e1 e2 e3
      simp at c9
      omega
 ·refine DC.exit <| Ad <| Ad <| Ag <| Fin.then <| Zs ?_
  refine Zm ?_
  refine Zm ?_
  refine Za ?_
  refine Za ?_
  refine Zx <| DC.ret ?_
  have hie : i = n := by simp at c4; omega
  subst hie
  have hbl := brV_len es i
  refine Fin.slcs (i := 0) (xs := brV es i) rfl (by omega) ?_
  rintro A c rfl _
  refine Fin.weak (E' := [(2, _), (3, _)]) (L' := [slc (.slice A (brV es i).length c) 3 1 (ints (brV es i))]) ⟨rfl, rfl, trivial⟩ (.cons 0 rfl .nil) ?_
  refine AK (.inl rfl) rfl rfl rfl ?_
  exact .inl ⟨A, c, d, rfl, rfl, hd⟩
end Go.Fl

namespace Go.Fl
open Go Go.Proofs
open Classical
theorem B0 (c : Chunk) : ∀ R : List Chunk, Pick (c :: R) R
 | [] => .nil
 | d :: R => .cons 1 rfl (B0 c R)
theorem pick_past (a : Chunk) {M L' : List Chunk} (h : Pick M L') : Pick (a :: M) L' := by
 induction h with
 | nil => exact .nil
 | cons i h r ih => exact .cons (i + 1) h ih
theorem slb_rows {w0 w : World} {K : List Nat} {F : List Chunk} {t : Nat} {cs : RL} {p : Value × List Int} (hw : Own w0 K w (F ++ rowsC t cs)) (hp : p ∈ cs) : SlB w p.1 p.2 := by
 obtain ⟨i, hi⟩ := List.mem_iff_getElem?.1 hp
 exact Fh (hw.perm (GA hi F).symm)
/-- The values of the map are our rows. -/
def MapR (m : List (Pr × Value)) (cs : RL) : Prop := ∀ q x, lkM m q = some x → ∃ p, p ∈ cs ∧ p.1 = x
theorem DR {gm : Nat} {m : List (Pr × Value)} {cs : RL} {X : List Chunk} {u v : Int} {w : World} (hO : Own w (idsOf (mpc encP gm m :: (X ++ rowsC 3 cs))) w (mpc encP gm m :: (X ++ rowsC 3 cs))) (hm : MapR m cs)
  (hs : ∀ p, p ∈ cs → p.2.length ≤ 1000000000) :
  Calls Tryz.prog 162 #[.map (some gm), .int .i64 u, .int .i64 v] w (Ret w (idsOf (mpc encP gm m :: (X ++ rowsC 3 cs))) fun r M => M = mpc encP gm m :: (X ++ rowsC 3 cs) ∧
   ∃ A l c, r = .tuple #[.slice A l c, .bool (lkM m (srt u v)).isSome]) := by
 obtain ⟨xs, hxl, hxs⟩ : ∃ xs : List Int, xs.length ≤ 1000000000 ∧ ∀ (w0 w' : World) K, Own w0 K w' (mpc encP gm m :: (X ++ rowsC 3 cs)) → SlB w' ((lkM m (srt u v)).getD (.slice none 0 0)) xs := by
  cases hq : lkM m (srt u v) with
  | none => exact ⟨[], by simp, fun _ _ _ _ => .inl ⟨none, 0, rfl, rfl⟩⟩
  | some x =>
   obtain ⟨p, hp, rfl⟩ := hm _ _ hq
   exact ⟨p.2, hs p hp, fun w0 w' K hw => slb_rows (F := mpc encP gm m :: X) hw hp⟩
 refine At (args := [_, _, _]) (L := mpc encP gm m :: (X ++ rowsC 3 cs)) Tryz.func162 rfl Tryz.ntmps162 rfl hO ?_
 refine Zs ?_
 refine Za ?_
 refine Za ?_
 refine Zx <| Zs ?_
 refine Zm ?_
 refine Zm ?_
 refine Zm ?_
 refine Zo (p_min rfl rfl rfl) ?_
 refine Zm ?_
 refine Zm ?_
 refine Zo (p_max rfl rfl rfl) ?_
 refine Zo (Ji (cs := #[.int .i64 (min u v), .int .i64 (max u v)]) rfl rfl Tryz.underlying35 AL ze35 rfl rfl rfl) ?_
 refine Zu (CW (k := srt u v) (ok := true) 0 rfl Gb rfl rfl rfl Tryz.underlying205 CV rfl) ?_
 refine Zm ?_
 refine Ze ?_
 refine Ze ?_
 refine Za ?_
 refine Za ?_
 refine Zx <| Zs ?_
 refine Zm ?_
 refine Seq.rel rfl rfl (Ao en52 rfl rfl rfl (fun w' hw => EB (hxs _ w' _ hw) (by omega))) ?_
 rintro v23 _ rfl
 simp only [List.cons_append, List.nil_append]
 refine Za ?_
 refine Zx <| DC.seq <| Zs ?_
 refine Zm ?_
 refine Zm ?_
 refine Zo (BC rfl rfl rfl) ?_
 refine Zx ?_
 refine Zd (fun c3 => ?_) fun c3 => ?_
 ·refine DC.region ?_
  refine Zm ?_
  refine Seq.gen rfl rfl (BK en53 rfl rfl rfl (Lc := [slc v23 3 1 (ints xs)]) (F := mpc encP gm m :: (X ++ rowsC 3 cs)) (.refl _) (fun k hk => hk) (fun w' hw => In (hw.sub (L' := [slc v23 3 1 (ints xs)]) ((List.nil_sublist _).cons_cons _)).self)) ?_
  rintro v28 _ ⟨_, rfl, rfl⟩
  refine Zx <| Zs ?_
  refine Zm ?_
  refine Zm ?_
  refine Za ?_
  refine Za ?_
  refine Zx <| DC.ret ?_
  refine Fin.shape (i := 0) (vs := ints xs.reverse) (t := 3) (m := 1) rfl ?_
  rintro ⟨A, l, c, rfl⟩
  refine Fin.own (fun w hw => hw.sub (List.sublist_cons_self ..)) ?_
  refine Fin.weak (E' := [(6, _), (7, _)]) ⟨rfl, rfl, trivial⟩ (Pick.all _) ?_
  refine AK (.inl rfl) rfl rfl rfl ?_
  exact ⟨rfl, A, l, c, rfl⟩
 ·refine DC.skip <| Fin.then <| Zs ?_
  refine Zm ?_
  refine Zm ?_
  refine Za ?_
  refine Za ?_
  refine Zx <| DC.ret ?_
  refine Fin.shape (i := 0) (vs := ints xs) (t := 3) (m := 1) rfl ?_
  rintro ⟨A, l, c, rfl⟩
  refine Fin.own (fun w hw => hw.sub (List.sublist_cons_self ..)) ?_
  refine Fin.weak (E' := [(6, _), (7, _)]) ⟨rfl, rfl, trivial⟩ (Pick.all _) ?_
  refine AK (.inl rfl) rfl rfl rfl ?_
  exact ⟨rfl, A, l, c, rfl⟩
theorem Ds {E : List Pr} {B : List Int} {i : Nat} {x : Int} (hx : B[i]? = some x) (f : Int → Bool) : (B.take (i + 1)).filter f = (B.take i).filter f ++ if f x then [x] else [] := by
 rw [List.take_add_one, hx, List.filter_append]
 congr 1
 cases h : f x <;> simp [h]
structure SdI where
 i : Nat
 v5 : Value
 v6 : Value
theorem J9 {gm : Nat} {m : List (Pr × Value)} {cs : RL} {vb : Value} {B : List Int} {E : List Pr} {w : World} (hO : Own w (idsOf (mpc encP gm m :: slc vb 3 1 (ints B) :: rowsC 3 cs)) w (mpc encP gm m :: slc vb 3 1 (ints B) :: rowsC 3 cs)) (hm : MapR m cs)
  (hs : ∀ p, p ∈ cs → p.2.length ≤ 1000000000) (hB : B.length ≤ 1000000) (hE : ∀ q, (lkM m q).isSome = decide (q ∈ E)) :
  Calls Tryz.prog 129 #[vb, .map (some gm)] w (Ret w (idsOf (mpc encP gm m :: slc vb 3 1 (ints B) :: rowsC 3 cs)) fun r M => M = mpc encP gm m :: slc r 3 1 (ints (sidesOf E B)) :: rowsC 3 cs) := by
 refine At (args := [_, _]) (L := mpc encP gm m :: slc vb 3 1 (ints B) :: rowsC 3 cs) Tryz.func129 rfl Tryz.ntmps129 rfl hO ?_
 refine DC.slcs (i := 1) (xs := B) rfl (by omega) ?_
 rintro A c rfl hA
 refine Zs ?_
 refine Za ?_
 refine Zx <| Zs ?_
 refine Za ?_
 refine Za ?_
 refine Zx <| DC.seq <| Zs ?_
 refine Zm ?_
 refine Zn Tryz.underlying44 ?_
 refine Zm ?_
 refine Zx <| DC.block ?_
 refine DC.own (fun w hw => Bd (t := 3) (m := 1) (Bd (t := 3) (m := 1) hw)) ?_
 refine DC.loop (ι := SdI) (fun j => j.i ≤ B.length)
  (fun j => [(0, .slice A B.length c), (1, .map (some gm)), (5, j.v5), (6, j.v6), (11, .slice A B.length c), (12, .int .i64 B.length), (13, .int .i64 j.i)])
  (fun j => mpc encP gm m :: slc j.v5 3 1 (ints ((B.take j.i).filter fun v => decide (srt (B.headD 0) v ∉ E))) :: slc j.v6 3 1 (ints ((B.take j.i).filter fun v => decide (srt (B.headD 0) v ∈ E))) :: slc (.slice A B.length c) 3 1 (ints B) :: rowsC 3 cs) (fun j => B.length - j.i)
  ⟨0, .slice none 0 0, .slice none 0 0⟩ (Nat.zero_le _) ⟨rfl, rfl, rfl, rfl, rfl, rfl, rfl, trivial⟩ (.cons 2 rfl (.cons 0 rfl (.cons 0 rfl (Pick.all _)))) ?_
 rintro ⟨i, v5, v6⟩ hi
 dsimp only at hi ⊢
 refine Zs ?_
 refine Zc ?_
 refine Zx <| DC.seq ?_
 refine Zd (fun c3 => ?_) fun c3 => ?_
 ·have hlt : i < B.length := by simpa using c3
  obtain ⟨ad, rfl⟩ := hA (fun e => by rw [e] at hlt; simp at hlt)
  obtain ⟨x, hx⟩ : ∃ x, B[i]? = some x := ⟨_, List.getElem?_eq_getElem hlt⟩
  obtain ⟨x0, hx0⟩ : ∃ x, B[0]? = some x := ⟨_, List.getElem?_eq_getElem (by omega)⟩
  have hhd : B.headD 0 = x0 := by rw [List.headD_eq_head?_getD, List.head?_eq_getElem?, hx0]; rfl
  have hl5 := List.length_filter_le (fun v => decide (srt (B.headD 0) v ∉ E)) (B.take i)
  have hl6 := List.length_filter_le (fun v => decide (srt (B.headD 0) v ∈ E)) (B.take i)
  rw [List.length_take] at hl5 hl6
  refine DC.skip <| Fin.then <| DC.seq <| DC.block <| Zs ?_
  refine Zo (Ah (ad' := ad.add i) rfl rfl rfl Tryz.underlying44 AL (by omega) (by omega) rfl) ?_
  refine Zu (Ai rfl rfl AI (BJ (i := 3) rfl hx (by omega))) ?_
  refine Za ?_
  refine Zx <| Zs ?_
  refine Zm ?_
  refine Zm ?_
  refine Zo (Ah (ad' := ad.add 0) rfl rfl rfl Tryz.underlying44 AL (by omega) (by omega) rfl) ?_
  refine Zu (Ai rfl rfl AI (BJ (i := 3) rfl hx0 (by omega))) ?_
  refine Zm ?_
  refine Seq.gen rfl rfl (BK en162 rfl rfl rfl (Lc := mpc encP gm m :: ([slc v5 3 1 (ints ((B.take i).filter fun v => decide (srt (B.headD 0) v ∉ E))), slc v6 3 1 (ints ((B.take i).filter fun v => decide (srt (B.headD 0) v ∈ E))), slc (.slice (some ad) B.length c) 3 1 (ints B)] ++ rowsC 3 cs)) (F := []) (by rw [List.append_nil]; exact .refl _) (fun k hk => hk) (fun w' hw => DR hw.self hm hs)) ?_
  rintro _ _ ⟨_, ⟨rfl, A', l', c', rfl⟩, rfl⟩
  rw [hE, List.append_nil, ← hhd]
  simp only [List.cons_append, List.nil_append]
  refine Zm ?_
  refine Ze ?_
  refine Ze ?_
  refine Za ?_
  refine Za ?_
  refine Zx <| Zs ?_
  refine Zm ?_
  refine Zx ?_
  refine Zd (fun c6 => ?_) fun c6 => ?_
  ·refine DC.region ?_
   refine Zm ?_
   refine Zm ?_
   refine Zw (AP (cs := #[_]) rfl rfl Tryz.underlying44 AL BT rfl (by decide) (by decide) rfl rfl) fun g29 => ?_
   refine Seq.gen rfl rfl (AG rfl rfl rfl Tryz.underlying44 AL Dp BT rfl (by decide) (by decide) (fun w hw => hw.perm (AH (i := 3) rfl).symm) (.inl ⟨_, _, rfl, Am rfl⟩) rfl (Bm [_] []) (by simp only [ints_length]; omega)) ?_
   rintro v30 _ rfl
   refine Za ?_
   refine Seq.nil <| Fin.inBlock <| Fin.then <| DC.region ?_
   refine Zp ?_
   refine Zm ?_
   refine Seq.nil ?_
   have h6 : srt (B.headD 0) x ∈ E := by simpa using c6
   refine Fin.again ⟨i + 1, v5, v30⟩ (by dsimp only; omega) (by dsimp only; omega) ⟨rfl, rfl, rfl, rfl, rfl, rfl, rfl, trivial⟩
    (.cons 2 rfl (.cons' 2 rfl ?_ (.cons' 0 rfl ?_ (.cons 1 rfl (B0 _ _)))))
   ·dsimp only; rw [Ds (E := E) hx, if_neg (by simpa using h6), List.append_nil]
   ·dsimp only; rw [Ds (E := E) hx, if_pos (by simpa using h6), AQ]
  ·refine DC.region ?_
   refine Zm ?_
   refine Zm ?_
   refine Zw (AP (cs := #[_]) rfl rfl Tryz.underlying44 AL BT rfl (by decide) (by decide) rfl rfl) fun g33 => ?_
   refine Seq.gen rfl rfl (AG rfl rfl rfl Tryz.underlying44 AL Dp BT rfl (by decide) (by decide) (fun w hw => hw.perm (AH (i := 2) rfl).symm) (.inl ⟨_, _, rfl, Am rfl⟩) rfl (Bm [_] []) (by simp only [ints_length]; omega)) ?_
   rintro v34 _ rfl
   refine Za ?_
   refine Seq.nil <| Fin.inBlock <| Fin.then <| DC.region ?_
   refine Zp ?_
   refine Zm ?_
   refine Seq.nil ?_
   have h6 : ¬ srt (B.headD 0) x ∈ E := by simpa using c6
   refine Fin.again ⟨i + 1, v34, v6⟩ (by dsimp only; omega) (by dsimp only; omega) ⟨rfl, rfl, rfl, rfl, rfl, rfl, rfl, trivial⟩
    (.cons 2 rfl (.cons' 0 rfl ?_ (.cons' 1 rfl ?_ (.cons 1 rfl (B0 _ _)))))
   ·dsimp only; rw [Ds (E := E) hx, if_pos (by simpa using h6), AQ]
   ·dsimp only; rw [Ds (E := E) hx, if_neg (by simpa using h6), List.append_nil]
 ·refine DC.exit <| Ad <| Ad <| Ag <| Fin.then <| DC.seq ?_
  have hie : i = B.length := by simp at c3; omega
  subst hie
  rw [List.take_length]
  have hl5 := List.length_filter_le (fun v => decide (srt (B.headD 0) v ∉ E)) B
  have hl6 := List.length_filter_le (fun v => decide (srt (B.headD 0) v ∈ E)) B
  refine DC.slcs (i := 2) (v := v6) (xs := B.filter fun v => decide (srt (B.headD 0) v ∈ E)) rfl (by omega) ?_
  rintro A6 c6' rfl hA6
  refine DC.region ?_
  refine Zm ?_
  refine Zm ?_
  have hsrc : Src w (idsOf (mpc encP gm m :: slc (.slice A B.length c) 3 1 (ints B) :: rowsC 3 cs)) (mpc encP gm m :: slc v5 3 1 (ints (B.filter fun v => decide (srt (B.headD 0) v ∉ E))) :: slc (.slice A6 (B.filter fun v => decide (srt (B.headD 0) v ∈ E)).length c6') 3 1 (ints (B.filter fun v => decide (srt (B.headD 0) v ∈ E))) :: slc (.slice A B.length c) 3 1 (ints B) :: rowsC 3 cs)
    (.slice A6 (B.filter fun v => decide (srt (B.headD 0) v ∈ E)).length c6') (B.filter fun v => decide (srt (B.headD 0) v ∈ E)).length (ints (B.filter fun v => decide (srt (B.headD 0) v ∈ E))) := by
   by_cases hz : (B.filter fun v => decide (srt (B.headD 0) v ∈ E)) = []
   ·rw [hz]
    cases A6 with
    | none => exact .inr ⟨_, rfl, rfl, rfl⟩
    | some ad => exact .inl ⟨ad, _, rfl, fun w hw j u hj => by simp [ints] at hj⟩
   ·obtain ⟨ad, rfl⟩ := hA6 hz
    exact .inl ⟨ad, _, rfl, Gd (i := 2) rfl (by omega)⟩
  refine Seq.gen rfl rfl (AG rfl rfl rfl Tryz.underlying44 AL Dp BT rfl (by decide) (by decide) (fun w hw => hw.perm (AH (i := 1) rfl).symm) hsrc (by simp) (Bm _ []) (by simp only [ints_length]; omega)) ?_
  rintro v38 _ rfl
  refine Za ?_
  refine Zx <| DC.ret ?_
  refine Fin.weak (E' := [(4, _)]) (L' := mpc encP gm m :: slc v38 3 1 (ints (sidesOf E B)) :: rowsC 3 cs) ⟨rfl, trivial⟩ (.cons 1 rfl (.cons' 0 rfl (by unfold sidesOf; rw [AQ]) (pick_past _ (B0 _ _)))) ?_
  refine Ak (.inl rfl) rfl rfl ?_
  rfl
end Go.Fl

namespace Go.Fl
open Go Go.Proofs
theorem PrV.src2 {w0 w : World} {L : List Chunk} {v : Value} {es : List Pr} (h : PrV w0 v es) : Src w0 [] L v es.length (prs es) := by
 obtain ⟨A, cap, rfl, hr, _, _, _⟩ := h
 refine Lu (m := 2) hr (by simp) (by simp) (fun hA => ?_)
 subst hA
 cases es with
 | nil => rfl
 | cons e r => obtain ⟨ad, e', _⟩ := hr.pair (i := 0) (e := e) rfl; cases e'
theorem SlV.src2 {w0 w : World} {L : List Chunk} {v : Value} {xs : List Int} (h : SlV w0 v xs) : Src w0 [] L v xs.length (ints xs) := by
 obtain ⟨A, cap, rfl, hr, _, _, _⟩ := h
 refine Lu (m := 1) hr (by simp) (by simp) (fun hA => ?_)
 subst hA
 cases xs with
 | nil => rfl
 | cons e r => obtain ⟨ad, e', _⟩ := hr.int (i := 0) (x := e) rfl; cases e'
/-- Lists of ours, seen as lists that are read. -/
theorem lsv_slc {w0 w : World} {K : List Nat} {F : List Chunk} {t t' : Nat} {v : Value} {rs : RL} (hw : Own w0 K w (slc v t' 1 (rowsV rs) :: (F ++ rowsC t rs))) (hb : rs.length ≤ 17592186044416) (hf : ∀ p, p ∈ rs → p.2.length ≤ 17592186044416) : LsV w v (rs.map Prod.snd) := by
 obtain ⟨A, len, cap, rfl, hl, hr, h1, h2⟩ := BV hw
 rw [rowsV_length, Nat.mul_one] at hl
 subst hl
 refine ⟨A, cap, by simp, fun i l hi => ?_, by simpa using h1, h2, by simpa using hb⟩
 rw [List.getElem?_map, Option.map_eq_some_iff] at hi
 obtain ⟨p, hp, rfl⟩ := hi
 have hg : (rowsV rs)[i]? = some p.1 := by simp [rowsV, hp]
 obtain ⟨ad, hA, hc⟩ := hr i p.1 hg
 refine ⟨ad, p.1, hA, hc, Fg (F := slc (.slice A rs.length cap) t' 1 (rowsV rs) :: F) (by simpa using hw) hp (hf p (List.mem_of_getElem? hp))⟩
structure OwI where
 i : Nat
theorem F0 {l : List Int} {a b : Value} {w : World} (ha : SlV w a l) (hb : SlV w b l) :
  Calls Tryz.prog 71 #[a, b] w (Ret w [] fun r M => M = [] ∧ r = .bool true) := by
 obtain ⟨A, cap, rfl, hr, hlc, hcm, hle⟩ := ha
 obtain ⟨A', cap', rfl, hr', hlc', hcm', _⟩ := hb
 refine At (K := []) (args := [_, _]) (L := []) Tryz.func71 rfl Tryz.ntmps71 rfl (Own.start _ _) ?_
 refine Zs ?_
 refine Za ?_
 refine Zx <| DC.seq <| Zs ?_
 refine Zm ?_
 refine Zn Tryz.underlying44 ?_
 refine Zm ?_
 refine Zn Tryz.underlying44 ?_
 refine Zo (BB rfl rfl rfl) ?_
 refine Zx ?_
 refine Zd (fun c1 => ?_) fun c1 => ?_
 ·simp at c1
 ·refine DC.skip <| Fin.then <| DC.seq <| Zs ?_
  refine Za ?_
  refine Zx <| DC.block ?_
  refine DC.loop (ι := OwI) (fun q => q.i ≤ l.length) (fun q => [(0, .slice A l.length cap), (1, .slice A' l.length cap'), (5, .int .i64 (q.i : Nat))]) (fun _ => []) (fun q => l.length - q.i) ⟨0⟩ (Nat.zero_le _) ⟨rfl, rfl, rfl, trivial⟩ .nil ?_
  rintro ⟨i⟩ hi
  dsimp only at hi ⊢
  refine DC.seq <| Zs ?_
  refine Zm ?_
  refine Zm ?_
  refine Zn Tryz.underlying44 ?_
  refine Zc ?_
  refine Zx ?_
  refine Zd (fun c4 => ?_) fun c4 => ?_
  ·have hlt : i < l.length := by simpa using c4
   obtain ⟨x, hx⟩ : ∃ x, l[i]? = some x := ⟨_, List.getElem?_eq_getElem hlt⟩
   obtain ⟨ad, rfl, cx⟩ := hr.int hx
   obtain ⟨ad', rfl, cx'⟩ := hr'.int hx
   refine DC.skip <| Fin.then <| DC.seq <| DC.block <| DC.seq ?_
   refine AD (cl := [.q, .q, .q, .v, .q, .q, .q, .v, .q]) (A := [0, 0, 3, 7, 0, 0, 48, 112, 255]) (order := [0, 1, 2, 3, 4, 5, 6, 7, 8]) [] mixed (by kernel_rfl) (fun w hw => hw.pick .nil) ?_
   refine Ym ?_
   refine Ym ?_
   refine Yo rfl (Ah (ad' := ad.add i) rfl rfl rfl Tryz.underlying44 AL (by omega) (by omega) (by rw [Int.toNat_natCast])) ?_
   refine Aj rfl rfl rfl rfl (Ai rfl rfl AI (Ar cx)) ?_
   refine Ym ?_
   refine Ym ?_
   refine Yo rfl (Ah (ad' := ad'.add i) rfl rfl rfl Tryz.underlying44 AL (by omega) (by omega) (by rw [Int.toNat_natCast])) ?_
   refine Aj rfl rfl rfl rfl (Ai rfl rfl AI (Ar cx')) ?_
   refine Yo rfl (BB rfl rfl rfl) ?_
   refine Flow.end rfl ?_
   simp only [zq, zr]
   refine Fin.then ?_
   refine Zd (fun c6 => ?_) fun c6 => ?_
   ·simp at c6
   ·refine DC.skip <| Fin.inBlock <| Fin.then <| DC.region ?_
    refine Zm ?_
    refine Zp ?_
    refine Za ?_
    refine Seq.nil ?_
    exact Fin.again ⟨i + 1⟩ (by dsimp only; omega) (by dsimp only; omega) ⟨rfl, rfl, rfl, trivial⟩ .nil
  ·refine DC.exit <| Ad <| Ad <| Ag <| Fin.then <| Zs ?_
   refine Za ?_
   refine Zx <| DC.ret ?_
   refine Fin.weak (E' := [(4, _)]) (L' := []) ⟨rfl, trivial⟩ .nil ?_
   refine Ak (.inl rfl) rfl rfl ?_
   exact ⟨rfl, rfl⟩
theorem Fq {ls : List (List Int)} {a b : Value} {w : World} (ha : LsV w a ls) (hb : LsV w b ls) :
  Calls Tryz.prog 37 #[a, b] w (Ret w [] fun r M => M = [] ∧ r = .bool true) := by
 obtain ⟨A, cap, rfl, hr, hlc, hcm, hle⟩ := ha
 obtain ⟨A', cap', rfl, hr', hlc', hcm', _⟩ := hb
 refine At (K := []) (args := [_, _]) (L := []) Tryz.func37 rfl Tryz.ntmps37 rfl (Own.start _ _) ?_
 refine Zs ?_
 refine Za ?_
 refine Zx <| DC.seq <| Zs ?_
 refine Zm ?_
 refine Zn Tryz.underlying25 ?_
 refine Zm ?_
 refine Zn Tryz.underlying25 ?_
 refine Zo (BB rfl rfl rfl) ?_
 refine Zx ?_
 refine Zd (fun c1 => ?_) fun c1 => ?_
 ·simp at c1
 ·refine DC.skip <| Fin.then <| DC.seq <| Zs ?_
  refine Za ?_
  refine Zx <| DC.block ?_
  refine DC.loop (ι := OwI) (fun q => q.i ≤ ls.length) (fun q => [(0, .slice A ls.length cap), (1, .slice A' ls.length cap'), (5, .int .i64 (q.i : Nat))]) (fun _ => []) (fun q => ls.length - q.i) ⟨0⟩ (Nat.zero_le _) ⟨rfl, rfl, rfl, trivial⟩ .nil ?_
  rintro ⟨i⟩ hi
  dsimp only at hi ⊢
  refine DC.seq <| Zs ?_
  refine Zm ?_
  refine Zm ?_
  refine Zn Tryz.underlying25 ?_
  refine Zc ?_
  refine Zx ?_
  refine Zd (fun c4 => ?_) fun c4 => ?_
  ·have hlt : i < ls.length := by simpa using c4
   obtain ⟨x, hx⟩ : ∃ x, ls[i]? = some x := ⟨_, List.getElem?_eq_getElem hlt⟩
   obtain ⟨ad, lv, rfl, cx, hS⟩ := hr i x hx
   obtain ⟨ad', lv', rfl, cx', hS'⟩ := hr' i x hx
   refine DC.skip <| Fin.then <| DC.seq <| DC.block <| DC.seq ?_
   refine AD (cl := [.q, .q, .q, .v, .q, .q, .q, .v, .r, .q]) (A := [0, 0, 3, 7, 0, 0, 48, 112, 255, 511]) (order := [0, 1, 2, 3, 4, 5, 6, 7, 8, 9]) [] mixed (by kernel_rfl) (fun w hw => hw.pick .nil) ?_
   refine Ym ?_
   refine Ym ?_
   refine Yo rfl (Ah (ad' := ad.add i) rfl rfl rfl Tryz.underlying25 Br (by omega) (by omega) (by rw [Int.toNat_natCast])) ?_
   refine Aj rfl rfl rfl rfl (Ai rfl rfl Bp (Ar cx)) ?_
   refine Ym ?_
   refine Ym ?_
   refine Yo rfl (Ah (ad' := ad'.add i) rfl rfl rfl Tryz.underlying25 Br (by omega) (by omega) (by rw [Int.toNat_natCast])) ?_
   refine Aj rfl rfl rfl rfl (Ai rfl rfl Bp (Ar cx')) ?_
   refine Flow.rel0 rfl rfl rfl rfl (Ao en71 rfl rfl rfl (fun w hw => F0 (hS.keep0 hw) (hS'.keep0 hw))) ?_
   rintro _ rfl
   refine Yo rfl (AY rfl rfl) ?_
   refine Flow.end rfl ?_
   simp only [zq, zr]
   refine Fin.then <| Zs ?_
   refine Zm ?_
   refine Zo (Bg rfl rfl) ?_
   refine Zx ?_
   refine Zd (fun c7 => ?_) fun c7 => ?_
   ·simp at c7
   ·refine DC.skip <| Fin.inBlock <| Fin.then <| DC.region ?_
    refine Zm ?_
    refine Zp ?_
    refine Za ?_
    refine Seq.nil ?_
    exact Fin.again ⟨i + 1⟩ (by dsimp only; omega) (by dsimp only; omega) ⟨rfl, rfl, rfl, trivial⟩ .nil
  ·refine DC.exit <| Ad <| Ad <| Ag <| Fin.then <| Zs ?_
   refine Za ?_
   refine Zx <| DC.ret ?_
   refine Fin.weak (E' := [(4, _)]) (L' := []) ⟨rfl, trivial⟩ .nil ?_
   refine Ak (.inl rfl) rfl rfl ?_
   exact ⟨rfl, rfl⟩
theorem H0 {N : Int} {es : List Pr} {a b : Value} {w : World} (ha : PrV w a es) (hb : PrV w b es) :
  Calls Tryz.prog 17 #[.agg #[.int .i64 N, a], .agg #[.int .i64 N, b]] w (Ret w [] fun r M => M = [] ∧ r = .bool true) := by
 obtain ⟨A, cap, rfl, hr, hlc, hcm, hle⟩ := ha
 obtain ⟨A', cap', rfl, hr', hlc', hcm', _⟩ := hb
 refine At (K := []) (args := [_, _]) (L := []) Tryz.func17 rfl Tryz.ntmps17 rfl (Own.start _ _) ?_
 refine Zs ?_
 refine Zw (AR rfl rfl rfl) fun g2 => ?_
 refine Zw (AR rfl rfl rfl) fun g3 => ?_
 refine Za ?_
 refine Zx <| DC.seq <| Zs ?_
 refine Zf Bz ?_
 refine Zl AI ?_
 refine Zf Bz ?_
 refine Zl AI ?_
 refine Zo (BB rfl rfl rfl) ?_
 refine Zm ?_
 refine Seq.split 11 rfl (fun k1_5 => ?_) (fun k1_5 => ?_)
 ·simp at k1_5
 ·refine Zf AS ?_
  refine Zl Bj ?_
  refine Zn Tryz.underlying22 ?_
  refine Zf AS ?_
  refine Zl Bj ?_
  refine Zn Tryz.underlying22 ?_
  refine Zo (BB rfl rfl rfl) ?_
  refine Zg ?_
  refine Zx ?_
  refine Zd (fun c1 => ?_) fun c1 => ?_
  ·simp at c1
  ·refine DC.skip <| Fin.then <| DC.seq <| Zs ?_
   refine Za ?_
   refine Zx <| DC.block ?_
   refine DC.loop (ι := OwI) (fun q => q.i ≤ es.length) (fun q => [(2, .pointer (some ⟨g2, 0, none⟩)), (3, .pointer (some ⟨g3, 0, none⟩)), (5, .int .i64 (q.i : Nat))]) (fun _ => [blk g3 24 #[.int .i64 N, .slice A' es.length cap'], blk g2 24 #[.int .i64 N, .slice A es.length cap]]) (fun q => es.length - q.i) ⟨0⟩ (Nat.zero_le _) ⟨rfl, rfl, rfl, trivial⟩ (.cons 0 rfl (.cons 0 rfl .nil)) ?_
   rintro ⟨i⟩ hi
   dsimp only at hi ⊢
   refine DC.seq <| Zs ?_
   refine Zm ?_
   refine Zf AS ?_
   refine Zl Bj ?_
   refine Zn Tryz.underlying22 ?_
   refine Zc ?_
   refine Zx ?_
   refine Zd (fun c4 => ?_) fun c4 => ?_
   ·have hlt : i < es.length := by simpa using c4
    obtain ⟨x, hx⟩ : ∃ x, es[i]? = some x := ⟨_, List.getElem?_eq_getElem hlt⟩
    obtain ⟨ad, rfl, cx, cy⟩ := hr.pair hx
    obtain ⟨ad', rfl, cx', cy'⟩ := hr'.pair hx
    refine DC.skip <| Fin.then <| DC.seq <| DC.block <| DC.seq ?_
    refine AD (cl := [.q, .v, .q, .q, .q, .v, .q, .v, .q, .q, .q, .v, .q, .q, .q, .v, .q, .q, .q, .v, .q, .v, .q, .q, .q, .v, .q, .q]) (A := [0, 1, 0, 7, 15, 31, 0, 64, 0, 448, 960, 1984, 4095, 8191, 16383, 32767, 16383, 131071, 262143, 524287, 16383, 1064959, 16383, 7356415, 15745023, 32522239, 67108863, 134217727]) (order := [0, 1, 2, 3, 4, 5, 6, 7, 8, 9, 10, 11, 12, 13, 14, 15, 16, 17, 18, 19, 20, 21, 22, 23, 24, 25, 26, 27]) [] mixed (by kernel_rfl) (fun w hw => hw.pick .nil) ?_
    refine Yf AS ?_
    refine Yl Bj ?_
    refine Ym ?_
    refine Yo rfl (AE (ad' := ad.add (i * 2)) rfl rfl rfl Tryz.underlying22 AW (by omega) (by omega) rfl) ?_
    refine Yo rfl (Bk (ad' := ad.add (i * 2)) rfl rfl AZ (by simp [Addr.add])) ?_
    refine Aj rfl rfl rfl rfl (Ai rfl rfl AI (Ar cx)) ?_
    refine Yf AS ?_
    refine Yl Bj ?_
    refine Ym ?_
    refine Yo rfl (AE (ad' := ad'.add (i * 2)) rfl rfl rfl Tryz.underlying22 AW (by omega) (by omega) rfl) ?_
    refine Yo rfl (Bk (ad' := ad'.add (i * 2)) rfl rfl AZ (by simp [Addr.add])) ?_
    refine Aj rfl rfl rfl rfl (Ai rfl rfl AI (Ar cx')) ?_
    refine Yo rfl (BB rfl rfl rfl) ?_
    refine Ym ?_
    refine Flow.split 40 rfl (fun k6_13 => ?_) (fun k6_13 => ?_)
    ·simp at k6_13
    ·refine Yf AS ?_
     refine Yl Bj ?_
     refine Ym ?_
     refine Yo rfl (AE (ad' := ad.add (i * 2)) rfl rfl rfl Tryz.underlying22 AW (by omega) (by omega) rfl) ?_
     refine Yo rfl (Bk (ad' := ad.add (i * 2 + 1)) rfl rfl Bi (BS _ _ _ (by decide))) ?_
     refine Aj rfl rfl rfl rfl (Ai rfl rfl AI (Ar cy)) ?_
     refine Yf AS ?_
     refine Yl Bj ?_
     refine Ym ?_
     refine Yo rfl (AE (ad' := ad'.add (i * 2)) rfl rfl rfl Tryz.underlying22 AW (by omega) (by omega) rfl) ?_
     refine Yo rfl (Bk (ad' := ad'.add (i * 2 + 1)) rfl rfl Bi (BS _ _ _ (by decide))) ?_
     refine Aj rfl rfl rfl rfl (Ai rfl rfl AI (Ar cy')) ?_
     refine Yo rfl (BB rfl rfl rfl) ?_
     refine Yo rfl (Ba rfl rfl rfl) ?_
     refine Flow.end rfl ?_
     simp only [zq, zr]
     refine Fin.then ?_
     refine Zd (fun c6 => ?_) fun c6 => ?_
     ·simp at c6
     ·refine DC.skip <| Fin.inBlock <| Fin.then <| DC.region ?_
      refine Zm ?_
      refine Zp ?_
      refine Za ?_
      refine Seq.nil ?_
      exact Fin.again ⟨i + 1⟩ (by dsimp only; omega) (by dsimp only; omega) ⟨rfl, rfl, rfl, trivial⟩ (.cons 0 rfl (.cons 0 rfl .nil))
   ·refine DC.exit <| Ad <| Ad <| Ag <| Fin.then <| Zs ?_
    refine Za ?_
    refine Zx <| DC.ret ?_
    refine Fin.weak (E' := [(4, _)]) (L' := []) ⟨rfl, trivial⟩ .nil ?_
    refine Ak (.inl rfl) rfl rfl ?_
    exact ⟨rfl, rfl⟩
theorem H1 {pl : Bool} {ls : List (List Int)} {cs : List Pr} {v u v' u' : Value} {w : World} (hv : LsV w v ls) (hu : PrV w u cs) (hv' : LsV w v' ls) (hu' : PrV w u' cs) :
  Calls Tryz.prog 18 #[.agg #[.bool pl, v, u], .agg #[.bool pl, v', u']] w (Ret w [] fun r M => M = [] ∧ r = .bool true) := by
 have hv0 := hv
 have hv0' := hv'
 obtain ⟨B, capb, rfl, _⟩ := hv
 obtain ⟨B', capb', rfl, _⟩ := hv'
 obtain ⟨A, cap, rfl, hr, hlc, hcm, hle⟩ := hu
 obtain ⟨A', cap', rfl, hr', hlc', hcm', _⟩ := hu'
 refine At (K := []) (args := [_, _]) (L := []) Tryz.func18 rfl Tryz.ntmps18 rfl (Own.start _ _) ?_
 refine Zs ?_
 refine Zw (AR rfl rfl rfl) fun g2 => ?_
 refine Zw (AR rfl rfl rfl) fun g3 => ?_
 refine Za ?_
 refine Zx <| DC.seq <| Zs ?_
 refine Zf C2 ?_
 refine Zl Id ?_
 refine Zf C2 ?_
 refine Zl Id ?_
 refine Zo (p_neq_b rfl rfl rfl Tryz.underlying4) ?_
 refine Zm ?_
 refine Seq.split 11 rfl (fun k1_5 => ?_) (fun k1_5 => ?_)
 ·simp at k1_5
 ·refine Zf BR ?_
  refine Zl Bj ?_
  refine Zn Tryz.underlying22 ?_
  refine Zf BR ?_
  refine Zl Bj ?_
  refine Zn Tryz.underlying22 ?_
  refine Zo (BB rfl rfl rfl) ?_
  refine Zg ?_
  refine Zx ?_
  refine Zd (fun c1 => ?_) fun c1 => ?_
  ·simp at c1
  ·refine DC.skip <| Fin.then <| DC.seq <| Zs ?_
   refine Za ?_
   refine Zx <| DC.block ?_
   refine DC.loop (ι := OwI) (fun q => q.i ≤ cs.length) (fun q => [(2, .pointer (some ⟨g2, 0, none⟩)), (3, .pointer (some ⟨g3, 0, none⟩)), (5, .int .i64 (q.i : Nat))]) (fun _ => [blk g3 27 #[.bool pl, .slice B' ls.length capb', .slice A' cs.length cap'], blk g2 27 #[.bool pl, .slice B ls.length capb, .slice A cs.length cap]]) (fun q => cs.length - q.i) ⟨0⟩ (Nat.zero_le _) ⟨rfl, rfl, rfl, trivial⟩ (.cons 0 rfl (.cons 0 rfl .nil)) ?_
   rintro ⟨i⟩ hi
   dsimp only at hi ⊢
   refine DC.seq <| Zs ?_
   refine Zm ?_
   refine Zf BR ?_
   refine Zl Bj ?_
   refine Zn Tryz.underlying22 ?_
   refine Zc ?_
   refine Zx ?_
   refine Zd (fun c4 => ?_) fun c4 => ?_
   ·have hlt : i < cs.length := by simpa using c4
    obtain ⟨x, hx⟩ : ∃ x, cs[i]? = some x := ⟨_, List.getElem?_eq_getElem hlt⟩
    obtain ⟨ad, rfl, cx, cy⟩ := hr.pair hx
    obtain ⟨ad', rfl, cx', cy'⟩ := hr'.pair hx
    refine DC.skip <| Fin.then <| DC.seq <| DC.block <| DC.seq ?_
    refine AD (cl := [.q, .v, .q, .q, .v, .q, .v, .q, .q, .v, .q]) (A := [0, 1, 0, 7, 15, 0, 32, 0, 224, 480, 1023]) (order := [0, 1, 2, 3, 4, 5, 6, 7, 8, 9, 10]) [] mixed (by kernel_rfl) (fun w hw => hw.pick .nil) ?_
    refine Yf BR ?_
    refine Yl Bj ?_
    refine Ym ?_
    refine Yo rfl (AE (ad' := ad.add (i * 2)) rfl rfl rfl Tryz.underlying22 AW (by omega) (by omega) rfl) ?_
    refine Aj rfl rfl rfl rfl (Aw (vs := [_, _]) rfl rfl Cr AW rfl (Ck cx cy (by simp))) ?_
    refine Yf BR ?_
    refine Yl Bj ?_
    refine Ym ?_
    refine Yo rfl (AE (ad' := ad'.add (i * 2)) rfl rfl rfl Tryz.underlying22 AW (by omega) (by omega) rfl) ?_
    refine Aj rfl rfl rfl rfl (Aw (vs := [_, _]) rfl rfl Cr AW rfl (Ck cx' cy' (by simp))) ?_
    refine Yo rfl (E4 rfl rfl rfl (by kernel_rfl)) ?_
    refine Flow.end rfl ?_
    simp only [zq, zr]
    refine Fin.then ?_
    refine Zd (fun c6 => ?_) fun c6 => ?_
    ·simp at c6
    ·refine DC.skip <| Fin.inBlock <| Fin.then <| DC.region ?_
     refine Zm ?_
     refine Zp ?_
     refine Za ?_
     refine Seq.nil ?_
     exact Fin.again ⟨i + 1⟩ (by dsimp only; omega) (by dsimp only; omega) ⟨rfl, rfl, rfl, trivial⟩ (.cons 0 rfl (.cons 0 rfl .nil))
   ·refine DC.exit <| Ad <| Ad <| Ag <| Fin.then <| Zs ?_
    refine Zf Co ?_
    refine Zl Dl ?_
    refine Zf Co ?_
    refine Zl Dl ?_
    refine Seq.rel0 rfl rfl (Ao en37 rfl rfl rfl (fun w hw => Fq (hv0.keep0 hw) (hv0'.keep0 hw))) ?_
    rintro _ rfl
    refine Za ?_
    refine Zx <| DC.ret ?_
    refine Fin.weak (E' := [(4, _)]) (L' := []) ⟨rfl, trivial⟩ .nil ?_
    refine Ak (.inl rfl) rfl rfl ?_
    exact ⟨rfl, rfl⟩
section
variable {P : Program} {ops : Array Oper} {w0 : World} {K : List Nat} {n : Nat} {ds : List Deferred} {E : Env} {L F : List Chunk}
theorem GR {Q : Exit → Act → World → Prop} {c : Code} {φ : Prop} (hf : ∀ w, Own w0 K w L → φ) (h : φ → DC P w0 K n ds Q c E L) : DC P w0 K n ds Q c E L := fun a w ha hw => h (hf w hw) a w ha hw
end
def cutV : Value → Value
 | .slice A l c => .slice A (l - 1) c
 | v => v
def arV (rs : RL) : List Value := rs.map fun p => cutV p.1
def tlR (rs : RL) : RL := rs.map fun p => (p.1, p.2 ++ [-7])
theorem D7 (rs : RL) : (arV rs).length = rs.length := by simp [arV]
theorem tlR_at {rs : RL} {i : Nat} {p : Value × List Int} (h : rs[i]? = some p) : (tlR rs)[i]? = some (p.1, p.2 ++ [-7]) := by simp [tlR, h]
theorem rowsC_at {t i : Nat} {rs : RL} {p : Value × List Int} {A : List Chunk} (h : rs[i]? = some p) : (A ++ rowsC t rs)[A.length + i]? = some (slc p.1 t 1 (ints p.2)) := by
 rw [List.getElem?_append_right (by omega), Nat.add_sub_cancel_left]
 simp [rowsC, h]
theorem LD {w : World} {A : Option Addr} {xs ys : List Value} (h : Rd w A (xs ++ ys)) : Rd w A xs := fun j u hu => h j u (by rw [List.getElem?_append_left (List.getElem?_eq_some_iff.1 hu).1]; exact hu)
theorem slv_pre {w : World} {xs : List Int} {A : Option Addr} {l c : Nat} {x : Int} (h : SlV w (.slice A l c) (xs ++ [x])) : SlV w (.slice A xs.length c) xs := by
 obtain ⟨A', cap, e, hr, h1, h2, h3⟩ := h
 cases e
 rw [AQ] at hr
 simp at h1 h3
 exact ⟨_, _, rfl, LD hr, by omega, h2, by omega⟩
theorem EF {w0 w : World} {K : List Nat} {L : List Chunk} {i t : Nat} {v : Value} {es : List Pr} {x : Pr} (hw : Own w0 K w L) (hi : L[i]? = some (slc v t 2 (prs (es ++ [x])))) : ∃ ad c, v = .slice (some ad) (es.length + 1) c ∧ es.length + 1 ≤ c ∧ c ≤ 9223372036854775807 ∧ Rd w (some ad) (prs (es ++ [x])) := by
 obtain ⟨A, len, cap, rfl, hl, hr, h1, h2⟩ := BV (hw.perm (AH hi).symm)
 simp at hl
 obtain ⟨ad, rfl, _⟩ := hr.pair (i := es.length) (e := x) (by simp)
 exact ⟨ad, cap, by congr 1; omega, by omega, h2, hr⟩
theorem CS {w0 w : World} {K : List Nat} {L : List Chunk} {i t l c : Nat} {A : Option Addr} {es : List Pr} {x : Pr} (hw : Own w0 K w L) (hi : L[i]? = some (slc (.slice A l c) t 2 (prs (es ++ [x])))) (hf : es.length ≤ 8796093021952) : PrV w (.slice A es.length c) es := by
 obtain ⟨ad, c, e, h1, h2, hr⟩ := EF hw hi
 cases e
 rw [Ch] at hr
 exact ⟨_, _, rfl, LD hr, by omega, h2, hf⟩
theorem slc_row {w0 w : World} {K : List Nat} {F : List Chunk} {t i : Nat} {rs : RL} {p : Value × List Int} (hw : Own w0 K w (F ++ rowsC t (tlR rs))) (h : rs[i]? = some p) (hf : p.2.length ≤ 17592186044415) : ∃ ad c, p.1 = .slice (some ad) (p.2.length + 1) c ∧ p.2.length + 1 ≤ c ∧ SlV w (.slice (some ad) p.2.length c) p.2 := by
 have h1 := Fg hw (tlR_at h) (by simp; omega)
 dsimp only at h1
 obtain ⟨A, c, e, hr, h2, h3, h4⟩ := id h1
 rw [e] at h1
 simp at e h2
 obtain ⟨ad, e', _⟩ := hr.int (i := 0) (x := (p.2 ++ [-7])[0]'(by simp)) (by simp)
 subst e'
 exact ⟨ad, c, e, h2, slv_pre h1⟩
theorem lsv_cut {w0 w : World} {K : List Nat} {F : List Chunk} {t t' : Nat} {v : Value} {rs : RL} (hw : Own w0 K w (slc v t' 1 (arV rs) :: (F ++ rowsC t (tlR rs)))) (hb : rs.length ≤ 17592186044416) (hf : ∀ p, p ∈ rs → p.2.length ≤ 17592186044415) : LsV w v (rs.map Prod.snd) := by
 obtain ⟨A, len, cap, rfl, hl, hr, h1, h2⟩ := BV hw
 rw [D7, Nat.mul_one] at hl
 subst hl
 refine ⟨A, cap, by simp, fun i l hi => ?_, by simpa using h1, h2, by simpa using hb⟩
 rw [List.getElem?_map, Option.map_eq_some_iff] at hi
 obtain ⟨p, hp, rfl⟩ := hi
 have hg : (arV rs)[i]? = some (cutV p.1) := by simp [arV, hp]
 obtain ⟨ad, hA, hc⟩ := hr i _ hg
 obtain ⟨ad2, c, e, _, hs⟩ := slc_row (F := slc (.slice A rs.length cap) t' 1 (arV rs) :: F) (by simpa using hw) hp (hf p (List.mem_of_getElem? hp))
 refine ⟨ad, cutV p.1, hA, hc, ?_⟩
 rw [e]
 exact hs
theorem Kk {w0 w : World} {K : List Nat} {L : List Chunk} {i t l c : Nat} {A : Option Addr} {es : List Pr} {x : Pr} (hw : Own w0 K w L) (hi : L[i]? = some (slc (.slice A l c) t 2 (prs (es ++ [x])))) (hf : es.length ≤ 8796093021952) (hne : 0 < es.length) : PrV w (.slice (if c = 1 then A else A.map (·.add (1 * 2))) (es.length - 1) (c - 1)) es.tail := by
 obtain ⟨ad, c, e, h1, h2, hr⟩ := EF hw hi
 cases e
 rw [Ch] at hr
 have hr := LD hr
 cases es with
 | nil => simp at hne
 | cons a r =>
  simp at h1 hf
  rw [if_neg (by omega)]
  refine ⟨_, _, rfl, ?_, by simp; omega, by omega, by simp; omega⟩
  intro j u hu
  obtain ⟨ad, e, hc⟩ := hr (j + 2) u (by simpa [prs] using hu)
  cases e
  refine ⟨_, rfl, ?_⟩
  have e : (ad.add (1 * 2)).add j = ad.add (j + 2) := by
   cases j with
   | zero => simp [Addr.add]
   | succ j => rw [BS _ _ _ (by omega)]; congr 1; omega
  rw [e]; exact hc
theorem IH {w0 : World} {K : List Nat} {L : List Chunk} {i j t l c : Nat} {ad : Addr} {xs : List Pr} {q : Pr} (hi : L[i]? = some (slc (.slice (some ad) l c) t 2 (prs xs))) (hj : xs[j]? = some q) : Hass w0 K L (ad.add (j * 2)) [.int .i64 q.1, .int .i64 q.2] := by
 intro w hw k u hk
 obtain ⟨A, len, cap, e, _, hr, _⟩ := BV (hw.perm (AH hi).symm)
 cases e
 obtain ⟨ad', e, h1, h2⟩ := hr.pair hj
 cases e
 match k with
 | 0 => simp at hk; subst hk; simpa [Addr.add] using h1
 | 1 => simp at hk; subst hk; rw [BS _ _ _ (by decide)]; exact h2
/-- Two neighbours changed about. -/
def swpL (l : List Int) (k : Nat) (x y : Int) : List Int := (l.set k x).set (k + 1) y
theorem swp_tl {l : List Int} {k : Nat} {x y : Int} (hk : k + 1 < l.length) : ((l ++ [-7]).set k x).set (k + 1) y = swpL l k x y ++ [-7] := by
 unfold swpL
 rw [List.set_append_left _ _ (by omega), List.set_append_left _ _ (by simp; omega)]
theorem GZ (l : List Int) (k : Nat) (x y : Int) : (swpL l k x y).length = l.length := by simp [swpL]
theorem rows_setT {t i : Nat} {rs : RL} {p : Value × List Int} {A : List Chunk} {l : List Int} (h : rs[i]? = some p) : (A ++ rowsC t (tlR rs)).set (A.length + i) (slc p.1 t 1 (ints (l ++ [-7]))) = A ++ rowsC t (tlR (rs.set i (p.1, l))) := by
 rw [List.set_append_right _ _ (by omega), Nat.add_sub_cancel_left]
 congr 1
 simp only [rowsC, tlR, List.map_set]
theorem arV_set {i : Nat} {rs : RL} {p : Value × List Int} {l : List Int} (h : rs[i]? = some p) : arV (rs.set i (p.1, l)) = arV rs := by
 unfold arV
 rw [List.map_set]
 apply List.ext_getElem?
 intro j
 rw [List.getElem?_set]
 split
 ·rename_i e; subst e
  obtain ⟨hl, rfl⟩ := List.getElem?_eq_some_iff.1 h
  simp [hl]
 ·rfl
theorem LB {i : Nat} {rs : RL} {p : Value × List Int} {l : List Int} (h : rs[i]? = some p) : rowsV (rs.set i (p.1, l)) = rowsV rs := by
 unfold rowsV
 rw [List.map_set]
 apply List.ext_getElem?
 intro j
 rw [List.getElem?_set]
 split
 ·rename_i e; subst e
  obtain ⟨hl, rfl⟩ := List.getElem?_eq_some_iff.1 h
  simp [hl]
 ·rfl
section
variable {w0 w : World} {K : List Nat} {t i k : Nat} {rs : RL} {p : Value × List Int} {c1 c2 c3 c4 c5 c6 c7 c8 : Chunk}
theorem row8 (h : rs[i]? = some p) : (c1 :: c2 :: c3 :: c4 :: c5 :: c6 :: c7 :: c8 :: rowsC t (tlR rs))[8 + i]? = some (slc p.1 t 1 (ints (p.2 ++ [-7]))) :=
 rowsC_at (A := [c1, c2, c3, c4, c5, c6, c7, c8]) (tlR_at h)
theorem row8s {c : Chunk} (h : rs[i]? = some p) : ((c1 :: c2 :: c3 :: c4 :: c5 :: c6 :: c7 :: c8 :: rowsC t (tlR rs)).set (8 + i) c)[8 + i]? = some c := by
 have := (List.getElem?_eq_some_iff.1 (row8 (c1 := c1) (c2 := c2) (c3 := c3) (c4 := c4) (c5 := c5) (c6 := c6) (c7 := c7) (c8 := c8) (t := t) h)).1
 rw [List.getElem?_set_self this]
theorem own_swap8 {x y : Int} {v : Value} {c : Chunk} (h : rs[i]? = some p) (hv : v = p.1) (hk : k + 1 < p.2.length)
  (hw : Own w0 K w (((c1 :: c2 :: c3 :: c4 :: c5 :: c6 :: c7 :: c8 :: rowsC t (tlR rs)).set (8 + i) c).set (8 + i) (slc v t 1 (ints (((p.2 ++ [-7]).set k x).set (k + 1) y))))) :
  Own w0 K w (c1 :: c2 :: c3 :: c4 :: c5 :: c6 :: c7 :: c8 :: rowsC t (tlR (rs.set i (p.1, swpL p.2 k x y)))) := by
 rw [List.set_set, swp_tl hk, hv] at hw
 have := rows_setT (t := t) (A := [c1, c2, c3, c4, c5, c6, c7, c8]) (l := swpL p.2 k x y) h
 have e : (c1 :: c2 :: c3 :: c4 :: c5 :: c6 :: c7 :: c8 :: rowsC t (tlR rs)).set (8 + i) (slc p.1 t 1 (ints (swpL p.2 k x y ++ [-7]))) = c1 :: c2 :: c3 :: c4 :: c5 :: c6 :: c7 :: c8 :: rowsC t (tlR (rs.set i (p.1, swpL p.2 k x y))) := this
 rw [e] at hw
 exact hw
theorem E6 {t' n c : Nat} {A : Option Addr} (hw : Own w0 K w (c1 :: c2 :: slc (.slice A n c) t' 1 (arV rs) :: c4 :: c5 :: c6 :: c7 :: c8 :: rowsC t (tlR rs))) (hb : rs.length ≤ 17592186044416) (hf : ∀ p, p ∈ rs → p.2.length ≤ 2097152) : LsV w (.slice A n c) (rs.map Prod.snd) :=
 lsv_cut (F := []) (t := t) (t' := t') (hw.sub (.cons _ (.cons _ (.cons_cons _ (.cons _ (.cons _ (.cons _ (.cons _ (.cons _ (List.Sublist.refl _)))))))))) hb (fun p hp => by have := hf p hp; omega)
theorem G4 (hw : Own w0 K w (c1 :: c2 :: c3 :: c4 :: c5 :: c6 :: c7 :: c8 :: rowsC t (tlR rs))) (h : rs[i]? = some p) (hf : p.2.length ≤ 2097152) : ∃ ad c, p.1 = .slice (some ad) (p.2.length + 1) c ∧ p.2.length + 1 ≤ c := by
 obtain ⟨ad, c, e, h1, _⟩ := slc_row (F := [c1, c2, c3, c4, c5, c6, c7, c8]) hw h (by omega)
 exact ⟨ad, c, e, h1⟩
end
end Go.Fl

namespace Go.Fl
open Go
/-- A slice of bytes that reads so. -/
def ByV (w : World) (v : Value) (bs : List UInt8) : Prop :=
 ∃ A cap, v = .slice A bs.length cap ∧ Rd w A (byc bs) ∧ bs.length ≤ cap ∧ cap ≤ 9223372036854775807
section
variable {w0 w : World} {K : List Nat} {L : List Chunk} {v : Value} {bs : List UInt8}
theorem ByV.keepK (h : ByV w0 v bs) (hk : ∀ ad l c, v = .slice (some ad) l c → ad.block ∉ K) (hw : Own w0 K w L) : ByV w v bs := by
 obtain ⟨A, cap, rfl, hr, h1, h2⟩ := h
 exact ⟨A, cap, rfl, hr.keep (fun ad e => hk ad _ _ (by rw [e])) hw, h1, h2⟩
theorem ByV.keep0 (h : ByV w0 v bs) (hw : Own w0 [] w L) : ByV w v bs := h.keepK (fun _ _ _ _ => by simp) hw
theorem Rd.byte {A : Option Addr} {i : Nat} {x : UInt8} (h : Rd w0 A (byc bs)) (hi : bs[i]? = some x) : ∃ ad, A = some ad ∧ w0.cell? (ad.add i) = some (.int .u8 x.toNat) := h _ _ (byc_get hi)
theorem ByV.at (h : ByV w0 v bs) {i : Nat} {x : UInt8} (hi : bs[i]? = some x) : ∃ ad cap, v = .slice (some ad) bs.length cap ∧ w0.cell? (ad.add i) = some (.int .u8 x.toNat) := by
 obtain ⟨A, cap, rfl, hr, _⟩ := h
 obtain ⟨ad, rfl, hc⟩ := hr.byte hi
 exact ⟨ad, cap, rfl, hc⟩
end
/-- Bytes that no block of K holds. -/
def ByO (v : Value) (bs : List UInt8) (K : List Nat) : Prop := bs ≠ [] → ∀ ad l c, v = .slice (some ad) l c → ad.block ∉ K
section
variable {w0 w : World} {K : List Nat} {L : List Chunk} {v : Value} {bs : List UInt8}
theorem ByV.keep (h : ByV w0 v bs) (ho : ByO v bs K) (hw : Own w0 K w L) : ByV w v bs := by
 by_cases he : bs = []
 ·subst he
  obtain ⟨A, cap, rfl, hr, h1, h2⟩ := h
  exact ⟨A, cap, rfl, fun j u hj => by simp [byc, Lib.byteCells] at hj, h1, h2⟩
 ·exact h.keepK (ho he) hw
theorem ByO.step (h : ByV w0 v bs) (ho : ByO v bs K) (hw : Own w0 K w L) : ByO v bs (idsOf L) := by
 intro he ad l c hva hin
 obtain ⟨A, cap, rfl, hr, h1, h2⟩ := h
 cases hva
 obtain ⟨e, he0⟩ : ∃ e, bs[0]? = some e := ⟨_, List.getElem?_eq_getElem (List.length_pos_iff.2 he)⟩
 obtain ⟨ad', ha, hc⟩ := hr.byte he0
 cases ha
 have hlt := World.block_lt_of_cell? w0 _ hc
 have hb : (ad.add 0).block = ad.block := by unfold Addr.add; split <;> rfl
 rw [hb] at hlt
 rcases hw.fresh _ hin with h5 | h5
 ·exact ho he ad _ _ rfl h5
 ·omega
theorem ByV.has {ad : Addr} {l c i : Nat} {x : UInt8} (h : ByV w0 (.slice (some ad) l c) bs) (ho : ByO (.slice (some ad) l c) bs K) (hi : bs[i]? = some x) : Has w0 K L (ad.add i) (.int .u8 x.toNat) := by
 intro w hw
 obtain ⟨ad', cap, e, hc⟩ := (h.keep ho hw).at hi
 cases e; exact hc
theorem ByV.len (h : ByV w0 v bs) : ∃ A c, v = .slice A bs.length c := by
 obtain ⟨A, c, e, _⟩ := h; exact ⟨A, c, e⟩
end
structure Tk where
 kd : Int
 fr : Int
 en : Int
 nu : Int
def tks : List Tk → List Value
 | [] => []
 | t :: r => .int .i64 t.kd :: .int .i64 t.fr :: .int .i64 t.en :: .int .i64 t.nu :: tks r
@[simp] theorem tks_length (l : List Tk) : (tks l).length = l.length * 4 := by
 induction l with
 | nil => rfl
 | cons e r ih => simp [tks, ih, Nat.succ_mul]
theorem GW (a b : List Tk) : tks (a ++ b) = tks a ++ tks b := by
 induction a with
 | nil => rfl
 | cons e r ih => simp [tks, ih]
theorem I2 : ∀ {l : List Tk} {i : Nat} {t : Tk}, l[i]? = some t → (tks l)[i * 4]? = some (.int .i64 t.kd) ∧ (tks l)[i * 4 + 1]? = some (.int .i64 t.fr) ∧ (tks l)[i * 4 + 2]? = some (.int .i64 t.en) ∧ (tks l)[i * 4 + 3]? = some (.int .i64 t.nu)
 | [], i, e, h => by simp at h
 | x :: r, 0, e, h => by simp at h; subst h; simp [tks]
 | x :: r, i + 1, e, h => by
  simp at h
  have := I2 h
  rw [Nat.succ_mul]
  exact ⟨by simpa [tks] using this.1, by simpa [tks] using this.2.1, by simpa [tks] using this.2.2.1, by simpa [tks] using this.2.2.2⟩
def isDig (b : UInt8) : Bool := decide (48 ≤ b.toNat) && decide (b.toNat ≤ 57)
/-- How many digits stand ahead. -/
def digs : List UInt8 → Nat
 | [] => 0
 | b :: r => if isDig b then digs r + 1 else 0
def decF (l : List UInt8) : Int := l.foldl (fun n b => 10 * n + ((b.toNat : Int) - 48)) 0
theorem IR (l : List UInt8) (b : UInt8) : decF (l ++ [b]) = 10 * decF l + ((b.toNat : Int) - 48) := by simp [decF]
/-- What a scan answers: the tokens, or the place and the number of what is wrong. -/
inductive ScA where
 | ok (l : List Tk)
 | bad (at' err : Int)
def scanF (at' : Nat) (l : List UInt8) (acc : List Tk) : ScA :=
 match l with
 | [] => .ok (acc ++ [⟨3, at', at', 0⟩])
 | c :: r =>
  if isDig c then
   if 9 < digs (c :: r) ∨ (1 < digs (c :: r) ∧ c.toNat = 48) then .bad at' 12
   else scanF (at' + (digs r + 1)) (r.drop (digs r)) (acc ++ [⟨1, at', (at' + (digs r + 1) : Nat), decF ((c :: r).take (digs (c :: r)))⟩])
  else if c.toNat = 10 then scanF (at' + 1) r (acc ++ [⟨2, at', (at' + 1 : Nat), 0⟩])
  else if c.toNat = 32 ∨ c.toNat = 9 ∨ c.toNat = 13 then scanF (at' + 1) r acc
  else .bad at' 11
termination_by l.length
decreasing_by all_goals simp <;> omega
def scanA (bs : List UInt8) : ScA := if 33554432 < bs.length then .bad 33554432 10 else scanF 0 bs []
theorem IP {bs : List UInt8} {i : Nat} {c : UInt8} (h : bs[i]? = some c) (hd : isDig c = true) : digs (bs.drop i) = digs (bs.drop (i + 1)) + 1 := by
 have hl := (List.getElem?_eq_some_iff.1 h).1
 rw [List.drop_eq_getElem_cons hl]
 have e : bs[i] = c := (List.getElem?_eq_some_iff.1 h).2
 rw [e]; simp [digs, hd]
theorem digs_end {bs : List UInt8} {i : Nat} (h : ∀ c, bs[i]? = some c → isDig c = false) : digs (bs.drop i) = 0 := by
 by_cases hl : i < bs.length
 ·rw [List.drop_eq_getElem_cons hl]
  have := h _ (List.getElem?_eq_getElem hl)
  simp [digs, this]
 ·rw [List.drop_eq_nil_of_le (by omega)]; rfl
/-- digits: from i to j all are. -/
theorem KW {bs : List UInt8} : ∀ (k i : Nat), (∀ j, i ≤ j → j < i + k → ∃ c, bs[j]? = some c ∧ isDig c = true) → digs (bs.drop i) = k + digs (bs.drop (i + k))
 | 0, i, h => by simp
 | k + 1, i, h => by
  obtain ⟨c, h1, h2⟩ := h i (Nat.le_refl _) (by omega)
  rw [IP h1 h2, KW k (i + 1) (fun j h3 h4 => h j (by omega) (by omega)), show i + 1 + k = i + (k + 1) by omega]
  omega
theorem scanF_end {bs : List UInt8} {i : Nat} {acc : List Tk} (h : bs.length ≤ i) (hi : i ≤ bs.length) : scanF i (bs.drop i) acc = .ok (acc ++ [⟨3, i, i, 0⟩]) := by
 rw [List.drop_eq_nil_of_le h]; simp [scanF]
theorem Ij {bs : List UInt8} {i k : Nat} {c : UInt8} {acc : List Tk} (h : bs[i]? = some c) (hd : isDig c = true) (hk : digs (bs.drop i) = k) (h9 : k ≤ 9) (h0 : ¬(1 < k ∧ c.toNat = 48)) :
  scanF i (bs.drop i) acc = scanF (i + k) (bs.drop (i + k)) (acc ++ [⟨1, i, (i + k : Nat), decF ((bs.drop i).take k)⟩]) := by
 have hl := (List.getElem?_eq_some_iff.1 h).1
 have e : bs[i] = c := (List.getElem?_eq_some_iff.1 h).2
 have hk' := IP h hd
 have e2 : bs.drop i = c :: bs.drop (i + 1) := by rw [List.drop_eq_getElem_cons hl, e]
 have e3 : digs (bs.drop (i + 1)) + 1 = k := by omega
 have e4 : digs (c :: bs.drop (i + 1)) = k := by rw [← e2]; exact hk
 have e5 : (bs.drop (i + 1)).drop (digs (bs.drop (i + 1))) = bs.drop (i + k) := by rw [List.drop_drop]; congr 1; omega
 rw [e2, scanF, if_pos hd, e4, if_neg (fun h1 => h1.elim (fun h => by omega) h0), e5, e3]
theorem Fj {bs : List UInt8} {i k : Nat} {c : UInt8} {acc : List Tk} (h : bs[i]? = some c) (hd : isDig c = true) (hk : digs (bs.drop i) = k) (h9 : 9 < k ∨ (1 < k ∧ c.toNat = 48)) :
  scanF i (bs.drop i) acc = .bad i 12 := by
 have hl := (List.getElem?_eq_some_iff.1 h).1
 have e : bs[i] = c := (List.getElem?_eq_some_iff.1 h).2
 have e2 : bs.drop i = c :: bs.drop (i + 1) := by rw [List.drop_eq_getElem_cons hl, e]
 have e4 : digs (c :: bs.drop (i + 1)) = k := by rw [← e2]; exact hk
 rw [e2, scanF, if_pos hd, e4, if_pos h9]
theorem Lw {bs : List UInt8} {i : Nat} {c : UInt8} {acc : List Tk} (h : bs[i]? = some c) (hd : isDig c = false) (hc : c.toNat = 10) :
  scanF i (bs.drop i) acc = scanF (i + 1) (bs.drop (i + 1)) (acc ++ [⟨2, i, (i + 1 : Nat), 0⟩]) := by
 have hl := (List.getElem?_eq_some_iff.1 h).1
 have e : bs[i] = c := (List.getElem?_eq_some_iff.1 h).2
 rw [List.drop_eq_getElem_cons hl, e, scanF, if_neg (by simp [hd]), if_pos hc]
theorem FW {bs : List UInt8} {i : Nat} {c : UInt8} {acc : List Tk} (h : bs[i]? = some c) (hd : isDig c = false) (hc : c.toNat ≠ 10) (h3 : c.toNat = 32 ∨ c.toNat = 9 ∨ c.toNat = 13) :
  scanF i (bs.drop i) acc = scanF (i + 1) (bs.drop (i + 1)) acc := by
 have hl := (List.getElem?_eq_some_iff.1 h).1
 have e : bs[i] = c := (List.getElem?_eq_some_iff.1 h).2
 rw [List.drop_eq_getElem_cons hl, e, scanF, if_neg (by simp [hd]), if_neg hc, if_pos h3]
theorem scanF_bad {bs : List UInt8} {i : Nat} {c : UInt8} {acc : List Tk} (h : bs[i]? = some c) (hd : isDig c = false) (hc : c.toNat ≠ 10) (h3 : ¬(c.toNat = 32 ∨ c.toNat = 9 ∨ c.toNat = 13)) :
  scanF i (bs.drop i) acc = .bad i 11 := by
 have hl := (List.getElem?_eq_some_iff.1 h).1
 have e : bs[i] = c := (List.getElem?_eq_some_iff.1 h).2
 rw [List.drop_eq_getElem_cons hl, e, scanF, if_neg (by simp [hd]), if_neg hc, if_neg h3]
section
variable {P : Program} {n : Nat} {ds : List Deferred} {E : Env} {o : Oper} {x y z : Operand} {v u : Value}
theorem wrap_u8 {i : Int} (h : 0 ≤ i ∧ i < 256) : IntKind.u8.wrap i = i := by
 unfold IntKind.wrap
 simp [IntKind.bits, IntKind.signed]
 omega
theorem p_sub8 {t t' : TypeId} {i j : Int} (ho : o.op = .binOp .sub t x y t') (hx : ev n E x = some (.int .u8 i)) (hy : ev n E y = some (.int .u8 j))
  (hb : 0 ≤ i - j ∧ i - j < 256) : Pur P n ds E o (.int .u8 (i - j)) := C3 (r := 0) ho hx hy fun w => by simp [binOp, Op.intArith, wrap_u8 hb]
theorem LL {src dst : Nat} {i : Int} (ho : o.op = .convert src dst x) (hx : ev n E x = some (.int .u8 i)) (hs : P.underlying src = some (.int .u8)) (hd : P.underlying dst = some (.int .i64)) (h0 : 0 ≤ i) (h1 : i < 256) :
  Pur P n ds E o (.int .i64 i) := by
 intro a w ha
 have hk : P.intKind dst = .i64 := by simp [Program.intKind, hd]
 have := run_convert_int (P := P) w src dst .u8 i (by rw [hs]; rfl) (by rw [hk]; exact hd)
 rw [hk, DJ (by omega)] at this
 simp [execOp, ho, ha.ev hx, this]
end
end Go.Fl

namespace Go.Fl
open Go
section
variable {P : Program} {ops : Array Oper} {w0 w : World} {K : List Nat} {n : Nat} {ds : List Deferred} {E : Env} {L F : List Chunk} {o : Oper} {x y z : Operand} {v u : Value} {Q : Exit → Act → World → Prop}
theorem DC.scope {c : Code} (h : DC P w0 K n ds (Exit.noGoto Q) c E L) : DC P w0 K n ds Q (.scope c) E L := fun a w ha hL => wp_scope_straight (h a w ha hL)
theorem DC.label {l : Nat} (h : Fin w0 K n ds (Q .normal) E L) : DC P w0 K n ds Q (.label l) E L := fun a w ha hL => wp_label (h a w ha hL)
theorem Fin.scope (h : Fin w0 K n ds (Q .normal) E L) : Fin w0 K n ds (Exit.noGoto Q .normal) E L := h
theorem Cb (h : Fin w0 K n ds (Q .ret) E L) : Fin w0 K n ds (Exit.noGoto Q .ret) E L := h
theorem loadAgg {ty : TypeId} {g t : Nat} {cs : Array Value} (hg : w.heap[g]? = some (.cells cs t (0, 0))) (ht : aggT P ty = some true) (hs : sizeT P ty = some cs.size) : (loadVar ty ⟨g, 0, none⟩).run P w = .ok (.agg cs) w := EI hg ht hs
theorem CQ {fn : Func} {p q : Tmp} {ty ty' : TypeId} {g t g' t' : Nat} {cs cs' : Array Value} {C : Value → List Chunk → Prop} {e : Exit} (he : e = .ret ∨ e = .normal) (hr : fn.results = #[.cell p ty, .cell q ty'])
  (hv : ev n E (.tmp p) = some (.pointer (some ⟨g, 0, none⟩))) (hv' : ev n E (.tmp q) = some (.pointer (some ⟨g', 0, none⟩))) [h : Find L g t cs] [h' : Find L g' t' cs'] (ht : aggT P ty = some true) (hs : sizeT P ty = some cs.size) (ht' : aggT P ty' = some true) (hs' : sizeT P ty' = some cs'.size)
  (hR : ∃ L', (∀ w, Own w0 K w L → Own w0 K w L') ∧ C (.tuple #[.agg cs, .agg cs']) L') : Fin w0 K n [] (bodyPost P fn (Ret w0 K C) e) E L := by
 intro a w ha hO
 obtain ⟨L', hL, hC⟩ := hR
 have hp : a.tmps.getD p undef = .pointer (some ⟨g, 0, none⟩) := by have := ha.ev hv; simpa only [Act.eval] using this
 have hq : a.tmps.getD q undef = .pointer (some ⟨g', 0, none⟩) := by have := ha.ev hv'; simpa only [Act.eval] using this
 have h1 : a.defers = [] ∧ ∃ v, (results fn a.tmps).run P w = .ok v w ∧ Ret w0 K C (.returned v) w :=
  ⟨ha.defers, _, FX hr hp hq (loadAgg (hO.holds _ h.mem) ht hs) (loadAgg (hO.holds _ h'.mem) ht' hs'), _, L', rfl, hC, hL w hO⟩
 rcases he with rfl | rfl <;> exact h1
/-- A token out of a slice of ours. -/
theorem Jq {i j t l c : Nat} {ad : Addr} {tk : List Tk} {k : Tk} (hi : L[i]? = some (slc (.slice (some ad) l c) t 4 (tks tk))) (hj : tk[j]? = some k) :
  Hass w0 K L (ad.add (j * 4)) [.int .i64 k.kd, .int .i64 k.fr, .int .i64 k.en, .int .i64 k.nu] := by
 obtain ⟨h1, h2, h3, h4⟩ := I2 hj
 intro w hw m u hm
 have hr := hw.perm (AH hi).symm
 obtain ⟨A, len, cap, e, _, hR, _⟩ := BV hr
 cases e
 have key : ∀ {q : Nat} {u : Value}, (tks tk)[j * 4 + q]? = some u → w.cell? ((ad.add (j * 4)).add q) = some u := by
  intro q u hq
  obtain ⟨ad', e, hc⟩ := hR _ _ hq
  cases e
  by_cases h0 : q = 0
  ·subst h0
   have : (ad.add (j * 4)).add 0 = ad.add (j * 4) := by simp [Addr.add]
   rw [this]; exact hc
  ·rw [BS _ _ _ (by omega)]; exact hc
 match m, hm with
 | 0, hm => simp at hm; subst hm; exact key h1
 | 1, hm => simp at hm; subst hm; exact key h2
 | 2, hm => simp at hm; subst hm; exact key h3
 | 3, hm => simp at hm; subst hm; exact key h4
theorem Dg {i j t l c : Nat} {ad : Addr} {tk : List Tk} {k : Tk} (hi : L[i]? = some (slc (.slice (some ad) l c) t 4 (tks tk))) (hj : tk[j]? = some k) (q : Nat) (hq : [Value.int .i64 k.kd, .int .i64 k.fr, .int .i64 k.en, .int .i64 k.nu][q]? = some u) :
  Has w0 K L ((ad.add (j * 4)).add q) u := fun w hw => Jq hi hj w hw q u hq
/-- A slice of tokens that reads so. -/
def TkV (w : World) (v : Value) (tk : List Tk) : Prop := ∃ A cap, v = .slice A tk.length cap ∧ Rd w A (tks tk) ∧ tk.length ≤ cap ∧ cap ≤ 9223372036854775807
theorem I1 {t : Nat} {tk : List Tk} (hw : Own w0 K w L) (i : Nat) (h : L[i]? = some (slc v t 4 (tks tk))) : TkV w v tk := by
 obtain ⟨A, len, cap, rfl, h1, hr, h2, h3⟩ := BV (hw.perm (AH h).symm)
 simp at h1
 obtain rfl : tk.length = len := by omega
 exact ⟨A, cap, rfl, hr, h2, h3⟩
theorem Rd.tk {A : Option Addr} {tk : List Tk} {i : Nat} {k : Tk} (h : Rd w A (tks tk)) (hi : tk[i]? = some k) : ∃ ad, A = some ad ∧ ∀ (q : Nat) u, [Value.int .i64 k.kd, .int .i64 k.fr, .int .i64 k.en, .int .i64 k.nu][q]? = some u → w.cell? (ad.add (i * 4 + q)) = some u := by
 obtain ⟨h1, h2, h3, h4⟩ := I2 hi
 obtain ⟨ad, rfl, _⟩ := h _ _ h1
 refine ⟨ad, rfl, fun q u hq => ?_⟩
 have key : ∀ {q : Nat} {u : Value}, (tks tk)[i * 4 + q]? = some u → w.cell? (ad.add (i * 4 + q)) = some u := by
  intro q u hq
  obtain ⟨ad', e, hc⟩ := h _ _ hq
  cases e; exact hc
 match q, hq with
 | 0, hq => simp at hq; subst hq; exact key h1
 | 1, hq => simp at hq; subst hq; exact key h2
 | 2, hq => simp at hq; subst hq; exact key h3
 | 3, hq => simp at hq; subst hq; exact key h4
end
/-! ### lines of a graph's text -/
structure RdS where
 n : Int
 ps : List Pr
 hd : Bool
 m : Int
inductive LnA where
 | ok (s : RdS)
 | bad (c a : Int)
def lineF (s : RdS) (l : List Tk) : LnA :=
 match l with
 | [] => .bad 0 0
 | t :: r =>
  if s.hd = false then
   match r with
   | [u] => if 1048576 < t.nu then .bad 21 t.fr else if 2097152 < u.nu then .bad 22 u.fr else .ok ⟨t.nu, s.ps, true, u.nu⟩
   | _ => .bad 20 t.fr
  else if s.m ≤ (s.ps.length : Int) then .bad 26 t.fr
  else
   match r with
   | [u] => if s.n ≤ t.nu then .bad 24 t.fr else if s.n ≤ u.nu then .bad 24 u.fr else .ok ⟨s.n, s.ps ++ [(t.nu, u.nu)], true, s.m⟩
   | _ => .bad 23 t.fr
/-- The lines of the tokens that are left, l what the line has so far. -/
def feedF (s : RdS) (l : List Tk) : List Tk → LnA
 | [] => .ok s
 | t :: r =>
  if t.kd = 1 then feedF s (l ++ [t]) r
  else
   match (if l = [] then LnA.ok s else lineF s l) with
   | .bad c a => .bad c a
   | .ok s' => if t.kd = 3 then .ok s' else feedF s' [] r
inductive RawA where
 | ok (n : Int) (ps : List Pr)
 | bad (c a : Int)
def endF (k : Nat) : LnA → RawA
 | .bad c a => .bad c a
 | .ok s => if s.hd = false then .bad 20 k else if (s.ps.length : Int) < s.m then .bad 25 k else .ok s.n s.ps
def rawF (bs : List UInt8) : RawA :=
 if 16777216 < bs.length then .bad 10 16777216
 else
  match scanA bs with
  | .bad a e => .bad e a
  | .ok tk => endF bs.length (feedF ⟨0, [], false, 0⟩ [] tk)
theorem feedF_num {s : RdS} {l r : List Tk} {t : Tk} (h : t.kd = 1) : feedF s l (t :: r) = feedF s (l ++ [t]) r := by simp [feedF, h]
theorem feedF_bad {s : RdS} {l r : List Tk} {t : Tk} {c a : Int} (h : t.kd ≠ 1) (hl : l ≠ []) (hb : lineF s l = .bad c a) : feedF s l (t :: r) = .bad c a := by simp [feedF, h, hl, hb]
theorem IM {s s' : RdS} {l r : List Tk} {t : Tk} (h : t.kd ≠ 1) (hl : (l = [] ∧ s' = s) ∨ (l ≠ [] ∧ lineF s l = .ok s')) (h3 : t.kd = 3) : feedF s l (t :: r) = .ok s' := by
 rcases hl with ⟨h1, rfl⟩ | ⟨h1, h2⟩
 ·simp [feedF, h1, h3]
 ·simp [feedF, h1, h2, h3]
theorem KN {s s' : RdS} {l r : List Tk} {t : Tk} (h : t.kd ≠ 1) (hl : (l = [] ∧ s' = s) ∨ (l ≠ [] ∧ lineF s l = .ok s')) (h3 : t.kd ≠ 3) : feedF s l (t :: r) = feedF s' [] r := by
 rcases hl with ⟨h1, rfl⟩ | ⟨h1, h2⟩
 ·simp [feedF, h, h1, h3]
 ·simp [feedF, h, h1, h2, h3]
theorem lineF_len {s s' : RdS} {l : List Tk} (h : lineF s l = .ok s') : s'.ps.length ≤ s.ps.length + 1 := by
 unfold lineF at h
 split at h
 ·cases h
 split at h
 ·split at h
  ·split at h
   ·cases h
   ·split at h
    ·cases h
    ·cases h; simp
  ·cases h
 ·split at h
  ·cases h
  ·split at h
   ·split at h
    ·cases h
    ·split at h
     ·cases h
     ·cases h; simp
   ·cases h
theorem scanF_err : ∀ (k : Nat) (l : List UInt8) (at' : Nat) (acc : List Tk) {a e : Int}, l.length ≤ k → scanF at' l acc = .bad a e → e ≠ 0 := by
 intro k
 induction k with
 | zero =>
  intro l at' acc a e hk h
  rw [List.eq_nil_of_length_eq_zero (by omega : l.length = 0)] at h
  simp [scanF] at h
 | succ k ih =>
  intro l at' acc a e hk h
  match l, hk, h with
  | [], hk, h => simp [scanF] at h
  | c :: r, hk, h =>
   simp at hk
   rw [scanF] at h
   split at h
   ·split at h
    ·cases h; decide
    ·exact ih _ _ _ (by simp; omega) h
   ·split at h
    ·exact ih _ _ _ hk h
    ·split at h
     ·exact ih _ _ _ hk h
     ·cases h; decide
theorem scanA_err {bs : List UInt8} {a e : Int} (h : scanA bs = .bad a e) : e ≠ 0 := by
 unfold scanA at h
 split at h
 ·cases h; decide
 ·exact scanF_err _ _ _ _ (Nat.le_refl _) h
section
variable {w0 w : World} {K : List Nat} {F : List Chunk}
theorem own_cut0 {t m len cap : Nat} {A : Option Addr} {vs : List Value} (hm : 0 < m) (hw : Own w0 K w (slc (.slice A len cap) t m vs :: F)) : Own w0 K w (slc (.slice A 0 cap) t m [] :: F) := by
 rcases B8 hw with ⟨e, rfl, _⟩ | ⟨g, len', cap', sp, e, h1, h2, h3, h4, hO⟩
 ·cases e; exact hw
 ·cases e
  exact BY (m := m) (by simp) hm (Nat.zero_le _) h3 (by simp at h4 ⊢; omega) (by simp) hO
theorem own_cutAt {L : List Chunk} {t m len cap : Nat} {A : Option Addr} {vs : List Value} (i : Nat) (hi : L[i]? = some (slc (.slice A len cap) t m vs)) (hm : 0 < m) (hw : Own w0 K w L) : Own w0 K w (slc (.slice A 0 cap) t m [] :: L.eraseIdx i) :=
 own_cut0 hm (hw.perm (AH hi).symm)
theorem DC.shapeT {P : Program} {n : Nat} {ds : List Deferred} {E : Env} {L : List Chunk} {v : Value} {Q : Exit → Act → World → Prop} {c : Code} {t : Nat} {tk : List Tk} (i : Nat) (hi : L[i]? = some (slc v t 4 (tks tk))) (h : (∃ A c, v = .slice A tk.length c) → DC P w0 K n ds Q c E L) : DC P w0 K n ds Q c E L := by
 intro a w ha hw
 obtain ⟨A, cap, e, _⟩ := I1 hw i hi
 exact h ⟨A, cap, e⟩ a w ha hw
theorem DC.shapeP {P : Program} {n : Nat} {ds : List Deferred} {E : Env} {L : List Chunk} {v : Value} {Q : Exit → Act → World → Prop} {c : Code} {t : Nat} {es : List Pr} (i : Nat) (hi : L[i]? = some (slc v t 2 (prs es))) (hf : es.length ≤ 8796093021952) (h : (∃ A c, v = .slice A es.length c) → DC P w0 K n ds Q c E L) : DC P w0 K n ds Q c E L := by
 intro a w ha hw
 obtain ⟨A, cap, e, _⟩ := Fr hw i hi hf
 exact h ⟨A, cap, e⟩ a w ha hw
theorem DI {P : Program} {n : Nat} {ds : List Deferred} {E : Env} {L : List Chunk} {v : Value} {Q : Exit → Act → World → Prop} {c : Code} {t : Nat} {xs : List Int} (i : Nat) (hi : L[i]? = some (slc v t 1 (ints xs))) (hf : xs.length ≤ 17592186044416) (h : (∃ A c, v = .slice A xs.length c) → DC P w0 K n ds Q c E L) : DC P w0 K n ds Q c E L := by
 intro a w ha hw
 obtain ⟨A, cap, e, _⟩ := Cc hw i hi hf
 exact h ⟨A, cap, e⟩ a w ha hw
theorem DC.rdI {P : Program} {n : Nat} {ds : List Deferred} {E : Env} {L : List Chunk} {Q : Exit → Act → World → Prop} {cd : Code} {t l c : Nat} {A : Option Addr} {xs : List Int} (i : Nat) (hi : L[i]? = some (slc (.slice A l c) t 1 (ints xs))) (h : (0 < xs.length → ∃ ad, A = some ad) → DC P w0 K n ds Q cd E L) : DC P w0 K n ds Q cd E L := by
 intro a w ha hw
 refine h (fun h0 => ?_) a w ha hw
 obtain ⟨A', len, cap, e, _, hR, _⟩ := BV (hw.perm (AH hi).symm)
 cases e
 obtain ⟨ad, e, _⟩ := hR.int (List.getElem?_eq_getElem h0)
 exact ⟨ad, e⟩
end
end Go.Fl

namespace Go.Fl
open Go
/-- A block of cells, whatever of it is marked. -/
def fro (g t : Nat) (cs : Array Value) : Chunk :=
 ⟨[g], fun w => ∃ fz, w.heap[g]? = some (.cells cs t fz), fun w w' h ⟨fz, hh⟩ => ⟨fz, (h g (List.mem_cons_self ..)).trans hh⟩⟩
section
variable {P : Program} {w0 w : World} {K : List Nat} {n : Nat} {ds : List Deferred} {E : Env} {L F : List Chunk} {o : Oper} {x y z : Operand} {v u : Value}
theorem KM {g i k : Nat} {cs : Array Value} {t : Nat} (hg : w.heap[g]? = some (.cells cs t (0, 0))) :
  ∃ fz, (w.freeze ⟨g, i, none⟩ k).heap[g]? = some (.cells cs t fz) ∧ (∀ j, j ≠ g → (w.freeze ⟨g, i, none⟩ k).heap[j]? = w.heap[j]?) ∧ (w.freeze ⟨g, i, none⟩ k).heap.size = w.heap.size ∧
   (w.freeze ⟨g, i, none⟩ k).os = w.os ∧ (w.freeze ⟨g, i, none⟩ k).tape = w.tape ∧ (w.freeze ⟨g, i, none⟩ k).output = w.output ∧ (w.freeze ⟨g, i, none⟩ k).drawn = w.drawn := by
 unfold World.freeze
 split
 ·exact ⟨_, hg, fun _ _ => rfl, rfl, rfl, rfl, rfl, rfl⟩
 ·refine ⟨_, by simp [Array.getElem?_modify, hg]; rfl, fun j hj => ?_, by simp, rfl, rfl, rfl, rfl⟩
  simp [Array.getElem?_modify, Ne.symm hj]
theorem g_mark {t e g len cap : Nat} {cs : Array Value} (ho : o.op = .convert t t x) (hx : ev n E x = some (.slice (some ⟨g, 0, none⟩) len cap)) (ht : P.underlying t = some (.slice e)) (he : P.underlying e = some (.int .u8))
  (hown : ∀ w, Own w0 K w L → Own w0 K w (blk g e cs :: F)) : Gen P w0 K n ds E L o (fun v M => v = .slice (some ⟨g, 0, none⟩) len cap ∧ M = fro g e cs :: F) := by
 intro a w ha hw
 have hO := hown w hw
 have hg : w.heap[g]? = some (.cells cs e (0, 0)) := hO.holds (blk g e cs) (List.mem_cons_self ..)
 have hsh : w.shape? g = some (e, cs.size) := by unfold World.shape?; rw [hg]
 have hrun : (execOp a.eval o).run P w = .ok (.value (.slice (some ⟨g, 0, none⟩) len cap)) (w.freeze ⟨g, cs.size, none⟩ 1) := by
  simp [execOp, ho, ha.ev hx, convert, run_underlying ht, run_underlying he, markStringish, hsh]
 obtain ⟨fz, h1, h2, h3, h4, h5, h6, h7⟩ := KM (i := cs.size) (k := 1) hg
 unfold RunsTo
 rw [hrun]
 refine ⟨_, ⟨rfl, rfl⟩, ?_⟩
 have h1' : Own w [g] (w.freeze ⟨g, cs.size, none⟩ 1) [fro g e cs] := by
  refine ⟨h4, h5, h6, ?_, by omega, fun k hk hn => h2 k (by simpa using hn), by simp [fro], fun q hq => ?_, fun q hq => ?_, fun c hc => ?_⟩
  ·rw [h7]; exact Lo.refl _
  ·simp [fro] at hq; subst hq; exact .inl (by simp)
  ·simp [fro] at hq; subst hq; rw [h3]; exact (Array.getElem?_eq_some_iff.1 hg).1
  ·simp at hc; subst hc; exact ⟨fz, h1⟩
 exact Own.frame (Lc := [blk g e cs]) hO h1' (fun k hk => by simp [blk] at hk ⊢; exact hk)
theorem byv_fro {g t cap : Nat} {bs : List UInt8} {sp : List Value} (hw : Own w0 K w L) (i : Nat) (hi : L[i]? = some (fro g t (byc bs ++ sp).toArray)) (h1 : bs.length ≤ cap) (h2 : cap ≤ 9223372036854775807) : ByV w (.slice (some ⟨g, 0, none⟩) bs.length cap) bs := by
 refine ⟨_, _, rfl, fun j u hj => ⟨_, rfl, ?_⟩, h1, h2⟩
 obtain ⟨fz, hg⟩ := hw.holds _ (List.mem_of_getElem? hi)
 rw [AC, cell_of_row w g j _ t fz hg]
 have hjl := (List.getElem?_eq_some_iff.1 hj).1
 simpa [List.getElem?_append_left hjl] using hj
end
end Go.Fl

namespace Go.Fl
open Go
def pk (L : List Chunk) : Chunk :=
 ⟨idsOf L, fun w => ∀ c, c ∈ L → c.holds w, fun w w' h hh c hc => c.loc w w' (fun g hg => h g (F9.2 ⟨c, hc, hg⟩)) (hh c hc)⟩
section
variable {w0 w : World} {K : List Nat} {L F : List Chunk}
theorem LM (h : Own w0 K w (L ++ F)) : Own w0 K w (pk L :: F) := by
 have e : idsOf (pk L :: F) = idsOf (L ++ F) := by simp [pk]
 refine ⟨h.os, h.tape, h.output, h.drawn, h.size, h.old, by rw [e]; exact h.nodup, fun g hg => h.fresh g (by rwa [e] at hg), fun g hg => h.lt g (by rwa [e] at hg), fun c hc => ?_⟩
 rcases List.mem_cons.1 hc with rfl | hc
 ·exact fun d hd => h.holds d (List.mem_append_left _ hd)
 ·exact h.holds c (List.mem_append_right _ hc)
theorem own_unpk (h : Own w0 K w (pk L :: F)) : Own w0 K w (L ++ F) := by
 have e : idsOf (pk L :: F) = idsOf (L ++ F) := by simp [pk]
 refine ⟨h.os, h.tape, h.output, h.drawn, h.size, h.old, by rw [← e]; exact h.nodup, fun g hg => h.fresh g (by rwa [← e] at hg), fun g hg => h.lt g (by rwa [← e] at hg), fun c hc => ?_⟩
 rcases List.mem_append.1 hc with hc | hc
 ·exact h.holds (pk L) (List.mem_cons_self ..) c hc
 ·exact h.holds c (List.mem_cons_of_mem _ hc)
theorem Hl {M : List Chunk} (i : Nat) (hi : M[i]? = some (pk L)) (h : Own w0 K w M) : Own w0 K w (L ++ M.eraseIdx i) := own_unpk (h.perm (AH hi).symm)
end
end Go.Fl

namespace Go.Fl
open Go Go.Proofs
theorem LF {N : Int} {es : List Pr} {va : Value} {w : World} (hg : PrV w va es) :
  Calls Tryz.prog 11 #[.agg #[.int .i64 N, va]] w (Ret w [] fun r L => ∃ A c, r = .agg #[.int .i64 N, .slice A es.length c] ∧ L = [slc (.slice A es.length c) 43 2 (prs es)]) := by
 have hl : es.length ≤ 8796093021952 := by obtain ⟨_, _, _, _, _, _, h⟩ := hg; exact h
 refine Calls.mono (Jc hg) ?_
 rintro e w' ⟨r, L', rfl, ⟨A, l, c, rfl, rfl⟩, hO⟩
 obtain ⟨A', c', he, _⟩ := Fr hO 0 rfl hl
 cases he
 exact ⟨_, _, rfl, ⟨_, _, rfl, rfl⟩, hO⟩
end Go.Fl

namespace Go.Fl
open Classical
def itr (f : Nat → Nat) : Nat → Nat → Nat
 | 0, h => h
 | k + 1, h => f (itr f k h)
/-- The least of its cycle. -/
def Lead (f : Nat → Nat) (h : Nat) : Prop := ∀ k, h ≤ itr f k h
noncomputable def leads (n : Nat) (f : Nat → Nat) : Nat := (List.range n).countP fun h => decide (Lead f h)
structure Perm (n : Nat) (f : Nat → Nat) : Prop where
 lt : ∀ i, i < n → f i < n
 inj : ∀ i j, i < n → j < n → f i = f j → i = j
def invs : List Nat → Nat
 | [] => 0
 | x :: r => r.countP (fun y => decide (y < x)) + invs r
def cross (a b : List Nat) : Nat := (a.map fun x => b.countP fun y => decide (y < x)).sum
theorem CD {n : Nat} {f : Nat → Nat} (h : Perm n f) {i : Nat} (hi : i < n) : ∀ k, itr f k i < n
 | 0 => hi
 | k + 1 => h.lt _ (CD h hi k)
theorem Ex (a b : List Nat) : invs (a ++ b) = invs a + invs b + cross a b := by
 induction a with
 | nil => simp [invs, cross]
 | cons x r ih =>
  simp only [List.cons_append, invs, ih, List.countP_append, cross, List.map_cons, List.sum_cons]
  omega
theorem DZ (a b : List Nat) (x : Nat) : cross a (x :: b) = cross a [x] + cross a b := by
 induction a with
 | nil => rfl
 | cons y r ih =>
  simp only [cross, List.map_cons, List.sum_cons] at ih ⊢
  rw [ih]
  simp only [List.countP_cons, List.countP_nil]
  omega
theorem JH (a b c : List Nat) : cross a (b ++ c) = cross a b + cross a c := by
 induction b with
 | nil =>
  have : cross a [] = 0 := by
   unfold cross
   induction a with
   | nil => rfl
   | cons y r ih => simpa using ih
  rw [this]; simp
 | cons x r ih => rw [List.cons_append, DZ, ih, DZ a r]; omega
theorem HG {a : List Nat} {n : Nat} (h : ∀ x, x ∈ a → x < n) : cross a [n] = 0 := by
 induction a with
 | nil => rfl
 | cons y r ih =>
  have h1 := h y (by simp)
  have h2 := ih fun x hx => h x (by simp [hx])
  simp only [cross, List.map_cons, List.sum_cons, List.countP_cons, List.countP_nil] at h2 ⊢
  rw [h2, if_neg (by simp; omega)]
theorem KZ {l : List Nat} {q : Nat} (h : q ∉ l) : l.countP (fun y => decide (y < q)) + l.countP (fun y => decide (q < y)) = l.length := by
 induction l with
 | nil => rfl
 | cons y r ih =>
  have h1 : y ≠ q := fun e => h (by simp [e])
  have := ih fun hm => h (by simp [hm])
  simp only [List.countP_cons, List.length_cons]
  by_cases c : y < q
  ·have : ¬ q < y := by omega
   simp [c, this]; omega
  ·have : q < y := by omega
   simp [c, this]; omega
theorem countP_all {l : List Nat} {n : Nat} (h : ∀ x, x ∈ l → x < n) : l.countP (fun y => decide (y < n)) = l.length := by
 rw [List.countP_eq_length]; intro a ha; simp [h a ha]
theorem cross_one (b : List Nat) (q : Nat) : cross b [q] = b.countP fun y => decide (q < y) := by
 induction b with
 | nil => rfl
 | cons x r ih =>
  simp only [cross, List.map_cons, List.sum_cons] at ih ⊢
  rw [ih]
  simp only [List.countP_cons, List.countP_nil]
  by_cases c : q < x <;> simp [c]; omega
/-- The greatest number is taken out of its cycle. -/
def cutF (n p q : Nat) (f : Nat → Nat) : Nat → Nat := fun i => if i = p then q else f i
theorem KY {n p : Nat} {f : Nat → Nat} (h : Perm (n + 1) f) (hp : p < n) (hfp : f p = n) : Perm n (cutF n p (f n) f) := by
 have hq : f n < n := by
  have := h.lt n (by omega)
  have : f n ≠ n := fun e => by have := h.inj p n (by omega) (by omega) (by rw [hfp, e]); omega
  omega
 refine ⟨fun i hi => ?_, fun i j hi hj he => ?_⟩
 ·unfold cutF
  split
  ·exact hq
  ·have := h.lt i (by omega)
   have : f i ≠ n := fun e => by have := h.inj i p (by omega) (by omega) (by rw [e, hfp]); omega
   omega
 ·unfold cutF at he
  split at he <;> split at he
  ·omega
  ·have := h.inj n j (by omega) (by omega) he; omega
  ·have := h.inj i n (by omega) (by omega) he; omega
  ·exact h.inj i j (by omega) (by omega) he
theorem cut_itr {n p : Nat} {f : Nat → Nat} (h : Perm (n + 1) f) (hp : p < n) (hfp : f p = n) {i : Nat} (hi : i < n) :
  (∀ k, ∃ j, itr (cutF n p (f n) f) k i = itr f j i) ∧ (∀ k, (itr f k i = n ∧ ∃ j, itr (cutF n p (f n) f) j i = p) ∨ ∃ j, itr f k i = itr (cutF n p (f n) f) j i) := by
 have hc := KY h hp hfp
 constructor
 ·intro k
  induction k with
  | zero => exact ⟨0, rfl⟩
  | succ k ih =>
   obtain ⟨j, hj⟩ := ih
   by_cases c : itr (cutF n p (f n) f) k i = p
   ·refine ⟨j + 2, ?_⟩
    show cutF n p (f n) f (itr (cutF n p (f n) f) k i) = f (f (itr f j i))
    rw [← hj, c]
    unfold cutF
    rw [if_pos rfl, hfp]
   ·refine ⟨j + 1, ?_⟩
    show cutF n p (f n) f (itr (cutF n p (f n) f) k i) = f (itr f j i)
    rw [← hj]
    unfold cutF at c ⊢
    rw [if_neg c]
 ·intro k
  induction k with
  | zero => exact .inr ⟨0, rfl⟩
  | succ k ih =>
   rcases ih with ⟨h1, j, hj⟩ | ⟨j, hj⟩
   ·right
    refine ⟨j + 1, ?_⟩
    show f (itr f k i) = cutF n p (f n) f (itr (cutF n p (f n) f) j i)
    rw [h1, hj]
    unfold cutF
    rw [if_pos rfl]
   ·have h4 : itr (cutF n p (f n) f) j i < n := CD hc hi j
    by_cases c : f (itr f k i) = n
    ·left
     have h3 : itr f k i = p := h.inj _ _ (by rw [hj]; omega) (by omega) (by rw [c, hfp])
     exact ⟨c, j, by rw [← hj, h3]⟩
    ·right
     refine ⟨j + 1, ?_⟩
     show f (itr f k i) = cutF n p (f n) f (itr (cutF n p (f n) f) j i)
     rw [← hj]
     unfold cutF
     rw [if_neg]
     intro e
     apply c; rw [e, hfp]
theorem cut_lead {n p : Nat} {f : Nat → Nat} (h : Perm (n + 1) f) (hp : p < n) (hfp : f p = n) {i : Nat} (hi : i < n) : Lead (cutF n p (f n) f) i ↔ Lead f i := by
 obtain ⟨h1, h2⟩ := cut_itr h hp hfp hi
 constructor
 ·intro hl k
  rcases h2 k with ⟨e, _⟩ | ⟨j, hj⟩
  ·omega
  ·rw [hj]; exact hl j
 ·intro hl k
  obtain ⟨j, hj⟩ := h1 k
  rw [hj]; exact hl j
theorem KB {n : Nat} {f g : Nat → Nat} (h : ∀ i, i < n → (Lead f i ↔ Lead g i)) : leads n f = leads n g := by
 unfold leads
 apply List.countP_congr
 intro x hx
 have := h x (List.mem_range.1 hx)
 simp [this]
theorem Hr (n : Nat) (f : Nat → Nat) : leads (n + 1) f = leads n f + if Lead f n then 1 else 0 := by
 unfold leads
 rw [List.range_succ, List.countP_append]
 simp
theorem LQ {n : Nat} {f : Nat → Nat} {l : List Nat} (h : Perm (n + 1) f) (hl : ∀ i, i ∈ l → i < n + 1) (p : Nat) (hp : p < n + 1) (hfp : f p = n) (hn : p ∉ l) : ∀ x, x ∈ l.map f → x < n := by
 intro x hx
 obtain ⟨i, hi, rfl⟩ := List.mem_map.1 hx
 have h1 := h.lt i (hl i hi)
 have : f i ≠ n := fun e => hn (by have := h.inj i p (hl i hi) hp (by rw [e, hfp]); rw [← this]; exact hi)
 omega
theorem Df : ∀ {a b : List Nat}, a.Nodup → (∀ x, x ∈ a → x ∈ b) → a.length ≤ b.length
 | [], b, _, _ => by simp
 | x :: r, b, hn, hs => by
  rw [List.nodup_cons] at hn
  have hx : x ∈ b := hs x (by simp)
  have ih := Df (a := r) (b := b.erase x) hn.2 (fun y hy => (List.mem_erase_of_ne (fun e => hn.1 (by rw [← e]; exact hy))).2 (hs y (by simp [hy])))
  have := List.length_erase_of_mem hx
  have : 0 < b.length := List.length_pos_of_mem hx
  simp; omega
theorem pre_image {n : Nat} {f : Nat → Nat} (h : Perm n f) {y : Nat} (hy : y < n) : ∃ x, x < n ∧ f x = y := by
 apply Classical.byContradiction
 intro hn
 have hnd : ((List.range n).map f).Nodup := by
  unfold List.Nodup
  rw [List.pairwise_map]
  refine List.nodup_range.imp_of_mem fun {a b} ha hb hab he => hab (h.inj a b (List.mem_range.1 ha) (List.mem_range.1 hb) he)
 have hsub : ∀ x, x ∈ (List.range n).map f → x ∈ (List.range n).filter fun z => decide (z ≠ y) := by
  intro x hx
  obtain ⟨i, hi, rfl⟩ := List.mem_map.1 hx
  have hi' := List.mem_range.1 hi
  exact List.mem_filter.2 ⟨List.mem_range.2 (h.lt i hi'), by simp; exact fun e => hn ⟨i, hi', e⟩⟩
 have h1 := Df hnd hsub
 have h2 : ((List.range n).filter fun z => decide (z ≠ y)).length < n := by
  have h3 : ((List.range n).filter fun z => decide (z ≠ y)).length + ((List.range n).filter fun z => decide (z = y)).length = n := by
   have : ∀ l : List Nat, (l.filter fun z => decide (z ≠ y)).length + (l.filter fun z => decide (z = y)).length = l.length := by
    intro l
    induction l with
    | nil => rfl
    | cons a r ih =>
     by_cases c : a = y
     ·simp [c] at ih ⊢; omega
     ·simp [c] at ih ⊢; omega
   have h5 := this (List.range n)
   rw [List.length_range] at h5
   exact h5
  have h4 : 0 < ((List.range n).filter fun z => decide (z = y)).length := List.length_pos_of_mem (a := y) (List.mem_filter.2 ⟨List.mem_range.2 hy, by simp⟩)
  omega
 rw [List.length_map, List.length_range] at h1
 omega
theorem Jp {f : Nat → Nat} {n : Nat} (h : f n = n) : ∀ k, itr f k n = n
 | 0 => rfl
 | k + 1 => by show f (itr f k n) = n; rw [Jp h k, h]
theorem Perm.cut {n : Nat} {f : Nat → Nat} (h : Perm (n + 1) f) (hf : f n = n) : Perm n f :=
 ⟨fun i hi => by
  have h1 := h.lt i (by omega)
  have : f i ≠ n := fun e => by have := h.inj i n (by omega) (by omega) (by rw [e, hf]); omega
  omega, fun i j hi hj he => h.inj i j (by omega) (by omega) he⟩
/-- Inversions and cycles. -/
theorem DT : ∀ (n : Nat) (f : Nat → Nat), Perm n f → (invs ((List.range n).map f) + leads n f) % 2 = n % 2
 | 0, f, _ => rfl
 | n + 1, f, h => by
  obtain ⟨p, hp, hfp⟩ := pre_image h (y := n) (by omega)
  by_cases hpn : p = n
  ·subst hpn
   have ih := DT p f (h.cut hfp)
   have e1 : (List.range (p + 1)).map f = (List.range p).map f ++ [p] := by rw [List.range_succ, List.map_append]; simp [hfp]
   have hlp : Lead f p := fun k => by rw [Jp hfp k]; exact Nat.le_refl _
   rw [e1, Ex, Hr, if_pos hlp]
   have e2 : cross ((List.range p).map f) [p] = 0 := HG (LQ h (fun i hi => by have := List.mem_range.1 hi; omega) p (by omega) hfp (by simp))
   have e3 : invs [p] = 0 := rfl
   omega
  ·have hpl : p < n := by omega
   have hc := KY h hpl hfp
   have ih := DT n _ hc
   have hl : leads n (cutF n p (f n) f) = leads n f := KB fun i hi => cut_lead h hpl hfp hi
   have hnl : ¬ Lead f n := fun hl => by
    have := hl 1
    have h2 : f n < n + 1 := h.lt n (by omega)
    have : f n ≠ n := fun e => hpn (h.inj p n hp (by omega) (by rw [hfp, e]))
    have h3 : n ≤ f n := hl 1
    omega
   rw [Hr, if_neg hnl]
   rw [hl] at ih
   obtain ⟨m, hm⟩ : ∃ m, n = p + 1 + m := ⟨n - (p + 1), by omega⟩
   generalize hA : (List.range p).map f = A
   generalize hB : (List.range' (p + 1) m).map f = B
   have hr1 : (List.range n) = List.range p ++ p :: List.range' (p + 1) m := by
    rw [List.range_eq_range', List.range_eq_range', hm, show p + 1 + m = p + (1 + m) by omega, ← List.range'_append_1, Nat.zero_add, Nat.add_comm 1 m, List.range'_succ]
   have e1 : (List.range (n + 1)).map f = A ++ n :: (B ++ [f n]) := by
    rw [List.range_succ, hr1, List.map_append, List.map_append, List.map_cons, hA, hB, hfp]; simp
   have e2 : (List.range n).map (cutF n p (f n) f) = A ++ f n :: B := by
    rw [hr1, List.map_append, List.map_cons]
    have c1 : (List.range p).map (cutF n p (f n) f) = A := by
     rw [← hA]; apply List.map_congr_left; intro i hi; have := List.mem_range.1 hi; unfold cutF; rw [if_neg (by omega)]
    have c2 : (List.range' (p + 1) m).map (cutF n p (f n) f) = B := by
     rw [← hB]; apply List.map_congr_left; intro i hi; have := List.mem_range'_1.1 hi; unfold cutF; rw [if_neg (by omega)]
    rw [c1, c2]
    congr 2
    unfold cutF; rw [if_pos rfl]
   rw [e2] at ih
   rw [e1]
   have bA : ∀ x, x ∈ A → x < n := by rw [← hA]; exact LQ h (fun i hi => by have := List.mem_range.1 hi; omega) p hp hfp (by simp)
   have bB : ∀ x, x ∈ B → x < n := by rw [← hB]; exact LQ h (fun i hi => by have := List.mem_range'_1.1 hi; omega) p hp hfp (fun hm3 => by have := List.mem_range'_1.1 hm3; omega)
   have hq : f n < n := by
    have := h.lt n (by omega)
    have : f n ≠ n := fun e => hpn (h.inj p n hp (by omega) (by rw [hfp, e]))
    omega
   have hqB : f n ∉ B := by
    rw [← hB]
    intro hm2
    obtain ⟨i, hi, he⟩ := List.mem_map.1 hm2
    have hi2 := List.mem_range'_1.1 hi
    have := h.inj i n (by omega) (by omega) he
    omega
   have k1 := KZ hqB
   have k2 : (B ++ [f n]).countP (fun y => decide (y < n)) = (B ++ [f n]).length := countP_all (by
    intro x hx
    rcases List.mem_append.1 hx with hx | hx
    ·exact bB x hx
    ·simp at hx; omega)
   have k3 : cross A (n :: (B ++ [f n])) = cross A B + cross A [f n] := by rw [DZ, JH, HG bA]; omega
   have k4 : cross A (f n :: B) = cross A [f n] + cross A B := DZ _ _ _
   have k5 : invs (B ++ [f n]) = invs B + B.countP (fun y => decide (f n < y)) := by
    rw [Ex, cross_one]
    have : invs [f n] = 0 := rfl
    omega
   rw [Ex] at ih ⊢
   simp only [invs] at ih ⊢
   rw [k2, k3, k5]
   rw [k4] at ih
   simp only [List.length_append, List.length_singleton]
   omega
/-! ### neighbours change places in pairs -/
def swp (T : Nat → Bool) : Nat → List Nat → List Nat
 | i, x :: y :: r => if T i then y :: x :: swp T (i + 1) r else x :: y :: swp T (i + 1) r
 | _, l => l
theorem J5 (T : Nat → Bool) : ∀ (i : Nat) (l : List Nat), (swp T i l).Perm l
 | i, x :: y :: r => by
  unfold swp
  have ih := J5 T (i + 1) r
  split
  ·exact (List.Perm.swap x y _).trans ((ih.cons y).cons x)
  ·exact (ih.cons y).cons x
 | _, [] => .refl _
 | _, [_] => .refl _
theorem KF (T : Nat → Bool) : ∀ (m i : Nat) (l : List Nat), l.Nodup → l.length = 2 * m → (invs (swp T i l) + (List.range' i m).countP T) % 2 = invs l % 2
 | 0, i, l, _, hl => by
  have : l = [] := List.eq_nil_of_length_eq_zero (by omega)
  subst this; rfl
 | m + 1, i, l, hn, hl => by
  match l, hn, hl with
  | [], _, hl => simp at hl
  | [_], _, hl => simp at hl; omega
  | x :: y :: r, hn, hl =>
   rw [List.nodup_cons, List.nodup_cons] at hn
   have ih := KF T m (i + 1) r hn.2.2 (by simp at hl; omega)
   have hp := J5 T (i + 1) r
   have hxy : x ≠ y := fun e => hn.1 (by simp [e])
   have c1 : ∀ z : Nat, (swp T (i + 1) r).countP (fun w => decide (w < z)) = r.countP (fun w => decide (w < z)) := fun z => hp.countP_eq _
   unfold swp
   rw [List.range'_succ, List.countP_cons]
   split
   ·rename_i ht
    simp only [invs, List.countP_cons, c1, ht, if_true]
    by_cases c : x < y
    ·have : ¬ y < x := by omega
     simp [c, this]; omega
    ·have : y < x := by omega
     simp [c, this]; omega
   ·rename_i ht
    simp only [invs, List.countP_cons, c1, ht]
    simp; omega
def twn (h : Nat) : Nat := if h % 2 = 0 then h + 1 else h - 1
theorem swp_map (T : Nat → Bool) (s : Nat → Nat) : ∀ (m i : Nat), swp T i ((List.range' (2 * i) (2 * m)).map s) = (List.range' (2 * i) (2 * m)).map fun h => s (if T (h / 2) then twn h else h)
 | 0, i => rfl
 | m + 1, i => by
  have ih := swp_map T s m (i + 1)
  rw [show 2 * (m + 1) = 2 * m + 1 + 1 by omega, List.range'_succ, List.range'_succ]
  simp only [List.map_cons]
  unfold swp
  rw [show 2 * i + 1 + 1 = 2 * (i + 1) by omega, ih]
  have e1 : 2 * i / 2 = i := by omega
  have e2 : (2 * i + 1) / 2 = i := by omega
  have e3 : twn (2 * i) = 2 * i + 1 := by unfold twn; rw [if_pos (by omega)]
  have e4 : twn (2 * i + 1) = 2 * i := by unfold twn; rw [if_neg (by omega)]; omega
  rw [e1, e2, e3, e4]
  split <;> rfl
theorem twn_perm (m : Nat) : Perm (2 * m) twn :=
 ⟨fun i hi => by unfold twn; split <;> omega, fun i j hi hj he => by unfold twn at he; split at he <;> split at he <;> omega⟩
theorem Perm.nodup {n : Nat} {f : Nat → Nat} (h : Perm n f) : ((List.range n).map f).Nodup := by
 unfold List.Nodup
 rw [List.pairwise_map]
 exact List.nodup_range.imp_of_mem fun {a b} ha hb hab he => hab (h.inj a b (List.mem_range.1 ha) (List.mem_range.1 hb) he)
/-- A permutation on a part, the rest at rest. -/
def onP (c : Nat → Bool) (f : Nat → Nat) : Nat → Nat := fun h => if c h then f h else h
theorem Hn {n : Nat} {f : Nat → Nat} {c : Nat → Bool} (h : Perm n f) (hc : ∀ i, i < n → c (f i) = c i) : Perm n (onP c f) := by
 refine ⟨fun i hi => ?_, fun i j hi hj he => ?_⟩
 ·unfold onP; split
  ·exact h.lt i hi
  ·exact hi
 ·unfold onP at he
  split at he <;> split at he
  ·exact h.inj i j hi hj he
  ·rename_i a b; have := hc i hi; rw [he] at this; rw [this] at b; exact absurd a b
  ·rename_i a b; have := hc j hj; rw [← he] at this; rw [this] at a; exact absurd b a
  ·exact he
theorem Jk {n : Nat} {f : Nat → Nat} {c : Nat → Bool} (h : Perm n f) (hc : ∀ i, i < n → c (f i) = c i) {i : Nat} (hi : i < n) (hci : c i = true) : ∀ k, itr (onP c f) k i = itr f k i ∧ c (itr f k i) = true
 | 0 => ⟨rfl, hci⟩
 | k + 1 => by
  obtain ⟨h1, h2⟩ := Jk h hc hi hci k
  have h3 : onP c f (itr f k i) = f (itr f k i) := by unfold onP; rw [if_pos h2]
  exact ⟨by show onP c f (itr (onP c f) k i) = _; rw [h1, h3]; rfl, by show c (f (itr f k i)) = true; rw [hc _ (CD h hi k)]; exact h2⟩
theorem Iz {n : Nat} {f : Nat → Nat} {c : Nat → Bool} (h : Perm n f) (hc : ∀ i, i < n → c (f i) = c i) :
  leads n (onP c f) = (List.range n).countP (fun i => c i && decide (Lead f i)) + (List.range n).countP fun i => !c i := by
 unfold leads
 have key : ∀ l : List Nat, (∀ i, i ∈ l → i < n) → l.countP (fun i => decide (Lead (onP c f) i)) = l.countP (fun i => c i && decide (Lead f i)) + l.countP fun i => !c i := by
  intro l hl
  induction l with
  | nil => rfl
  | cons i r ih =>
   have ih' := ih fun j hj => hl j (by simp [hj])
   have hi := hl i (by simp)
   simp only [List.countP_cons, ih']
   by_cases hci : c i = true
   ·have e : Lead (onP c f) i ↔ Lead f i := by
     unfold Lead
     constructor
     ·intro hh k; rw [← (Jk h hc hi hci k).1]; exact hh k
     ·intro hh k; rw [(Jk h hc hi hci k).1]; exact hh k
    simp [hci, e]; omega
   ·have e : Lead (onP c f) i := fun k => by
     have : onP c f i = i := by unfold onP; rw [if_neg hci]
     rw [Jp this k]; exact Nat.le_refl _
    simp [hci, e]; omega
 exact key _ fun i hi => List.mem_range.1 hi
/-- Of a part that both leave in place: its faces, its vertices and its edges are even together. -/
theorem KQ {m : Nat} {s : Nat → Nat} {c : Nat → Bool} (hs : Perm (2 * m) s) (h1 : ∀ i, i < 2 * m → c (s i) = c i) (h2 : ∀ i, i < 2 * m → c (twn i) = c i) :
  ((List.range (2 * m)).countP (fun i => c i && decide (Lead (fun h => s (twn h)) i)) + (List.range (2 * m)).countP (fun i => c i && decide (Lead s i)) + (List.range m).countP fun e => c (2 * e)) % 2 = 0 := by
 have ht := twn_perm m
 have hf : Perm (2 * m) fun h => s (twn h) := ⟨fun i hi => hs.lt _ (ht.lt i hi), fun i j hi hj he => ht.inj i j hi hj (hs.inj _ _ (ht.lt i hi) (ht.lt j hj) he)⟩
 have hfc : ∀ i, i < 2 * m → c (s (twn i)) = c i := fun i hi => by rw [h1 _ (ht.lt i hi), h2 i hi]
 have a1 := DT _ _ (Hn hs h1)
 have a2 := DT _ _ (Hn hf hfc)
 rw [Iz hs h1] at a1
 rw [Iz hf hfc] at a2
 have e1 : (List.range (2 * m)).map (onP c fun h => s (twn h)) = swp (fun e => c (2 * e)) 0 ((List.range (2 * m)).map (onP c s)) := by
  have := swp_map (fun e => c (2 * e)) (onP c s) m 0
  rw [Nat.mul_zero, ← List.range_eq_range'] at this
  rw [this]
  apply List.map_congr_left
  intro h hh
  have hlt := List.mem_range.1 hh
  have h3 : c (2 * (h / 2)) = c h := by
   by_cases hp : h % 2 = 0
   ·rw [show 2 * (h / 2) = h by omega]
   ·have e : twn h = 2 * (h / 2) := by unfold twn; rw [if_neg hp]; omega
    rw [← e]; exact h2 h hlt
  rw [h3]
  unfold onP
  by_cases hc : c h = true
  ·rw [if_pos hc, if_pos hc, if_pos (by rw [h2 h hlt]; exact hc)]
  ·rw [if_neg hc, if_neg hc, if_neg hc]
 have a3 := KF (fun e => c (2 * e)) m 0 _ (Hn hs h1).nodup (by simp)
 rw [← e1, ← List.range_eq_range'] at a3
 omega
end Go.Fl

namespace Go.Fl
open Classical
theorem DS (f : Nat → Nat) (x : Nat) : ∀ a b, itr f (a + b) x = itr f a (itr f b x)
 | 0, b => by rw [Nat.zero_add]; rfl
 | a + 1, b => by rw [Nat.succ_add]; show f _ = f _; rw [DS f x a b]
theorem itr_inj {n : Nat} {f : Nat → Nat} (h : Perm n f) {x y : Nat} (hx : x < n) (hy : y < n) : ∀ k, itr f k x = itr f k y → x = y
 | 0, e => e
 | k + 1, e => itr_inj h hx hy k (h.inj _ _ (CD h hx k) (CD h hy k) e)
theorem itr_ret {n : Nat} {f : Nat → Nat} (h : Perm n f) {x : Nat} (hx : x < n) : ∃ k, 0 < k ∧ itr f k x = x := by
 apply Classical.byContradiction
 intro hno
 have hnd : ((List.range (n + 1)).map fun k => itr f k x).Nodup := by
  unfold List.Nodup
  rw [List.pairwise_map, List.pairwise_iff_getElem]
  intro i j hi hj hij e
  simp only [List.getElem_range] at e
  have e2 : itr f i (itr f (j - i) x) = itr f i x := by rw [← DS, show i + (j - i) = j by omega]; exact e.symm
  exact hno ⟨j - i, by omega, itr_inj h (CD h hx _) hx i e2⟩
 have := Df (b := List.range n) hnd (fun y hy => by
  obtain ⟨k, _, rfl⟩ := List.mem_map.1 hy
  exact List.mem_range.2 (CD h hx k))
 rw [List.length_map, List.length_range, List.length_range] at this
 omega
theorem Hu {n : Nat} {f : Nat → Nat} (h : Perm n f) {x y : Nat} {q : Nat} (hx : x < n) (e : itr f q x = y) : ∃ r, itr f r y = x := by
 obtain ⟨k, hk, hr⟩ := itr_ret h hx
 have hm : ∀ m, itr f (k * m) x = x := by
  intro m
  induction m with
  | zero => rfl
  | succ m ih => rw [Nat.mul_succ, DS, hr, ih]
 have hq : q ≤ k * q := Nat.le_mul_of_pos_left _ hk
 refine ⟨k * q - q, ?_⟩
 rw [← e, ← DS, show k * q - q + q = k * q by omega, hm]
/-- Seen by the walks that began below h. -/
def SeenB (f : Nat → Nat) (h x : Nat) : Prop := ∃ j q, j < h ∧ itr f q j = x
theorem EG {n : Nat} {f : Nat → Nat} (h : Perm n f) {x : Nat} (hx : x < n) : SeenB f x x ↔ ¬ Lead f x := by
 constructor
 ·rintro ⟨j, q, hj, e⟩ hl
  obtain ⟨r, hr⟩ := Hu h (by omega) e
  have := hl r
  omega
 ·intro hl
  simp only [Lead, Classical.not_forall, Nat.not_le] at hl
  obtain ⟨k, hk⟩ := hl
  obtain ⟨r, hr⟩ := Hu h hx rfl (q := k)
  exact ⟨_, r, hk, hr⟩
/-- A walk round that comes upon what is seen. -/
theorem Ih {n : Nat} {f : Nat → Nat} (h : Perm n f) {x t : Nat} (hx : x < n) (ht : 0 < t) (hns : ¬ SeenB f x x) (hs : SeenB f x (itr f t x) ∨ ∃ i, i < t ∧ itr f i x = itr f t x) :
  ∀ q, ∃ i, i < t ∧ itr f i x = itr f q x := by
 have hcl : ∃ i, i < t ∧ itr f i x = itr f t x := by
  rcases hs with ⟨j, q, hj, e⟩ | hs
  ·exfalso
   obtain ⟨r, hr⟩ := Hu h hx rfl (q := t)
   exact hns ⟨j, r + q, hj, by rw [DS, e, hr]⟩
  ·exact hs
 intro q
 induction q with
 | zero => exact ⟨0, ht, rfl⟩
 | succ q ih =>
  obtain ⟨i, hi, e⟩ := ih
  have e2 : itr f (i + 1) x = itr f (q + 1) x := by show f _ = f _; rw [e]
  by_cases h1 : i + 1 < t
  ·exact ⟨i + 1, h1, e2⟩
  ·obtain ⟨i', hi', e'⟩ := hcl
   exact ⟨i', hi', by rw [e', show t = i + 1 by omega, e2]⟩
theorem ER {f : Nat → Nat} {x t : Nat} (hall : ∀ q, ∃ i, i < t ∧ itr f i x = itr f q x) (y : Nat) : SeenB f (x + 1) y ↔ SeenB f x y ∨ ∃ i, i < t ∧ itr f i x = y := by
 constructor
 ·rintro ⟨j, q, hj, e⟩
  rcases Nat.lt_succ_iff_lt_or_eq.1 hj with hj | rfl
  ·exact .inl ⟨j, q, hj, e⟩
  ·obtain ⟨i, hi, e2⟩ := hall q
   exact .inr ⟨i, hi, e2.trans e⟩
 ·rintro (⟨j, q, hj, e⟩ | ⟨i, hi, e⟩)
  ·exact ⟨j, q, by omega, e⟩
  ·exact ⟨x, i, by omega, e⟩
theorem EQ {f : Nat → Nat} {x : Nat} (hs : SeenB f x x) (y : Nat) : SeenB f (x + 1) y ↔ SeenB f x y := by
 constructor
 ·rintro ⟨j, q, hj, e⟩
  rcases Nat.lt_succ_iff_lt_or_eq.1 hj with hj | rfl
  ·exact ⟨j, q, hj, e⟩
  ·obtain ⟨j', q', hj', e'⟩ := hs
   exact ⟨j', q + q', hj', by rw [DS, e', e]⟩
 ·rintro ⟨j, q, hj, e⟩; exact ⟨j, q, by omega, e⟩
end Go.Fl

namespace Go.Fl
open Go Go.Proofs
open Classical
/-- The step along a face. -/
def phi (f : Nat → Int) (h : Nat) : Nat := (f (twn h)).toNat
structure FaI where
 h : Nat
 g : Nat → Bool
 fs : RL
 v : Value
structure FaJ where
 t : Nat
 g : Nat → Bool
 v : Value
structure FaD (n : Nat) (f : Nat → Int) (j : FaI) : Prop where
 le : j.h ≤ n
 seen : ∀ x, x < n → (j.g x = true ↔ SeenB (phi f) j.h x)
 heads : j.fs.map (fun p => p.2.head?) = ((List.range j.h).filter fun x => decide (Lead (phi f) x)).map fun (x : Nat) => some (x : Int)
 short : ∀ p, p ∈ j.fs → p.2.length ≤ n
structure FaW (n : Nat) (f : Nat → Int) (h : Nat) (g0 : Nat → Bool) (j : FaJ) : Prop where
 nd : ((List.range j.t).map fun i => itr (phi f) i h).Nodup
 seen : ∀ x, x < n → (j.g x = true ↔ g0 x = true ∨ ∃ i, i < j.t ∧ itr (phi f) i h = x)
 new : 0 < j.t → ¬ (g0 h = true)
def faceL (f : Nat → Int) (h t : Nat) : List Int := (List.range t).map fun i => ((itr (phi f) i h : Nat) : Int)
theorem FOf_calls {N : Int} {es : List Pr} {rs : List (List Int)} {va v : Value} {w : World} (hg : PrV w va es) (hl : LsV w v rs)
  (hperm : ∀ f, RotL N es rs → NxOk rs rs.length f → Perm (es.length * 2) (phi f) ∧ ∀ h, h < es.length * 2 → 0 ≤ f h) :
  Calls Tryz.prog 152 #[.agg #[.int .i64 N, va], v] w (Ret w [] fun r M =>
   (RotL N es rs ∧ ∃ v fs f, r = .tuple #[v, .int .i64 0] ∧ NxOk rs rs.length f ∧ FaD (es.length * 2) f ⟨es.length * 2, fun _ => true, fs, v⟩ ∧ M = slc v 44 1 (rowsV fs) :: rowsC 3 fs) ∨
   (¬ RotL N es rs ∧ M = [] ∧ ∃ e, r = .tuple #[.slice none 0 0, .int .i64 e] ∧ e ≠ 0)) := by
 refine At (args := [_, _]) (L := []) Tryz.func152 rfl Tryz.ntmps152 rfl (Own.start _ _) ?_
 refine Zs ?_
 refine Zw (AR (cs := #[.int .i64 N, va]) rfl rfl rfl) fun g2 => ?_
 refine Za ?_
 refine Za ?_
 refine Zx <| Zs ?_
 refine Zu (Aw (vs := [_, _]) rfl rfl Bo Bh rfl (Am rfl)) ?_
 refine Zm ?_
 refine Seq.rel rfl rfl (Ao en174 rfl rfl rfl (fun w' hw => Next_calls (hg.keep0 hw) (hl.keep0 hw))) ?_
 intro v16 L16 hC16
 obtain ⟨sv, e, rfl, hD16⟩ : ∃ sv e, v16 = .tuple #[sv, .int .i64 e] ∧ ((e = 0 ∧ RotL N es rs ∧ ∃ g f, sv = .slice (some ⟨g, 0, none⟩) (es.length * 2) (es.length * 2) ∧ NxOk rs rs.length f ∧ L16 = [blk g 3 (ints (tab (es.length * 2) f)).toArray]) ∨ (¬ RotL N es rs ∧ e ≠ 0)) := by
  rcases hC16 with ⟨hok, g, f, rfl, h1, h2⟩ | ⟨hno, _, e, rfl, hne⟩
  ·exact ⟨_, _, rfl, .inl ⟨rfl, hok, g, f, rfl, h1, h2⟩⟩
  ·exact ⟨_, _, rfl, .inr ⟨hno, hne⟩⟩
 clear hC16
 refine Zm ?_
 refine Ze ?_
 refine Ze ?_
 refine Za ?_
 refine Za ?_
 refine Zx <| DC.seq <| Zs ?_
 refine Zm ?_
 refine Zo (BB rfl rfl rfl) ?_
 refine Zx ?_
 refine Zd (fun c2 => ?_) fun c2 => ?_
 ·refine Zs ?_
  refine Zm ?_
  refine Za ?_
  refine Za ?_
  refine Zx <| DC.ret <| Aa ?_
  have hne : e ≠ 0 := by simpa using c2
  have hno := (hD16.resolve_left (fun h => hne h.1)).1
  refine Fin.weak (E' := [(4, _), (5, _)]) ⟨rfl, rfl, trivial⟩ .nil ?_
  refine AK (.inl rfl) rfl rfl rfl ?_
  exact .inr ⟨hno, rfl, e, rfl, hne⟩
 ·refine DC.skip <| Fin.then <| DC.seq ?_
  have he0 : e = 0 := by simpa using c2
  obtain ⟨_, hok, gn, f, rfl, hnx, rfl⟩ := hD16.resolve_right (fun h => h.2 he0)
  simp only [List.cons_append, List.nil_append]
  obtain ⟨hP, hf0⟩ := hperm f hok hnx
  have hfew := hok.1.few
  obtain ⟨n, hn⟩ : ∃ n, n = es.length * 2 := ⟨_, rfl⟩
  rw [← hn] at hP hf0 ⊢
  have hn1 : n ≤ 8388608 := by omega
  refine DC.region ?_
  refine Zm ?_
  refine Zn Tryz.underlying44 ?_
  refine Zw (B1 (k := n) rfl rfl rfl Tryz.underlying188 FS by4 ze4 rfl (by omega) (by omega) (DA _)) fun g24 => ?_
  refine Za ?_
  refine Zx <| Zs ?_
  refine Za ?_
  refine Zx <| DC.seq <| Zs ?_
  refine Zm ?_
  refine Zn Tryz.underlying44 ?_
  refine Zm ?_
  refine Zx <| DC.block ?_
  refine DC.own (fun w hw => Bd (t := 44) (m := 1) hw) ?_
  refine DC.loop (ι := FaI) (fun j => FaD n f j)
   (fun j => [(6, .slice (some ⟨gn, 0, none⟩) n n), (8, .slice (some ⟨g24, 0, none⟩) n n), (9, j.v), (25, .slice (some ⟨gn, 0, none⟩) n n), (26, .int .i64 n), (27, .int .i64 j.h)])
   (fun j => slc j.v 44 1 (rowsV j.fs) :: blk g24 4 (bls n j.g).toArray :: blk gn 3 (ints (tab n f)).toArray :: rowsC 3 j.fs) (fun j => n - j.h) ⟨0, fun _ => false, [], .slice none 0 0⟩
   ⟨Nat.zero_le _, fun x _ => ⟨fun h => by simp at h, fun ⟨j, q, h, _⟩ => absurd h (Nat.not_lt_zero _)⟩, by simp, by simp⟩ ⟨rfl, rfl, rfl, rfl, rfl, rfl, trivial⟩ (.cons 0 rfl (.cons 0 rfl (.cons 0 rfl .nil))) ?_
  rintro ⟨h, g, fs, v9⟩ hD
  have hDle := hD.le
  have hDse := hD.seen
  dsimp only at hDle hDse ⊢
  refine Zs ?_
  refine Zc ?_
  refine Zx <| DC.seq ?_
  refine Zd (fun c7 => ?_) fun c7 => ?_
  ·have hlt : h < n := by simpa using c7
   refine DC.skip <| Fin.then <| DC.seq <| DC.block <| Zs ?_
   refine Zm ?_
   refine Za ?_
   refine Zx <| Zs ?_
   refine Za ?_
   refine Zx <| DC.seq <| Zs ?_
   refine Zm ?_
   refine Za ?_
   refine Zx <| DC.block ?_
   refine DC.own (fun w hw => Bd (t := 3) (m := 1) hw) ?_
   refine DC.loop (ι := FaJ) (fun j => FaW n f h g j)
    (fun j => [(6, .slice (some ⟨gn, 0, none⟩) n n), (8, .slice (some ⟨g24, 0, none⟩) n n), (9, v9), (11, j.v), (12, .int .i64 (itr (phi f) j.t h : Nat)), (25, .slice (some ⟨gn, 0, none⟩) n n), (26, .int .i64 n), (27, .int .i64 h)])
    (fun j => slc j.v 3 1 (ints (faceL f h j.t)) :: slc v9 44 1 (rowsV fs) :: blk g24 4 (bls n j.g).toArray :: blk gn 3 (ints (tab n f)).toArray :: rowsC 3 fs) (fun j => n - j.t) ⟨0, g, .slice none 0 0⟩
    ⟨by simp, fun x hx => by simp, fun h => absurd h (Nat.lt_irrefl _)⟩ ⟨rfl, rfl, rfl, rfl, rfl, rfl, rfl, rfl, trivial⟩ (Pick.all _) ?_
   rintro ⟨t, g', v11⟩ hW
   have hWse := hW.seen
   have hk := CD hP hlt t
   dsimp only at hWse ⊢
   have htn : t ≤ n := by
    have := Df (b := List.range n) hW.nd (fun y hy => by obtain ⟨q, _, rfl⟩ := List.mem_map.1 hy; exact List.mem_range.2 (CD hP hlt q))
    simpa using this
   obtain ⟨k, hkk⟩ : ∃ k, k = itr (phi f) t h := ⟨_, rfl⟩
   rw [← hkk] at hk ⊢
   have htw : twn k < n := by unfold twn; split <;> omega
   have hval : (ints (tab n f)).toArray[twn k]? = some (.int .i64 ((phi f k : Nat) : Int)) := by
    rw [Bs htw]; congr 2; exact (Int.toNat_of_nonneg (hf0 _ htw)).symm
   have exor : (if (k : Int) % 2 = 0 then (k : Int) + 1 else (k : Int) - 1) = ((twn k : Nat) : Int) := by unfold twn; split <;> split <;> omega
   refine DC.seq <| Zs ?_
   refine Zm ?_
   refine Zm ?_
   refine Zi Tryz.underlying188 FS ?_
   refine Zu (Ai rfl rfl Id (Be (D5 g' hk))) ?_
   refine Zo (Bg rfl rfl) ?_
   refine Zx ?_
   refine Zd (fun c11 => ?_) fun c11 => ?_
   ·have hgk : ¬ (g' k = true) := by simpa using c11
    have hkn : ¬ ∃ i, i < t ∧ itr (phi f) i h = k := fun h1 => hgk ((hWse k hk).2 (.inr h1))
    have hnd1 : ((List.range (t + 1)).map fun i => itr (phi f) i h).Nodup := by
     rw [List.range_succ, List.map_append, List.nodup_append]
     refine ⟨hW.nd, by simp, fun a ha b hb e => ?_⟩
     simp at hb; subst hb; subst e
     obtain ⟨q, hq, e⟩ := List.mem_map.1 ha
     exact hkn ⟨q, List.mem_range.1 hq, by rw [hkk]; exact e⟩
    have htn1 : t + 1 ≤ n := by
     have := Df (b := List.range n) hnd1 (fun y hy => by obtain ⟨q, _, rfl⟩ := List.mem_map.1 hy; exact List.mem_range.2 (CD hP hlt q))
     simpa using this
    refine DC.skip <| Fin.then <| DC.seq <| DC.block <| Zs ?_
    refine Zm ?_
    refine Zm ?_
    refine Zi Tryz.underlying188 FS ?_
    refine Zy (AF (cs' := (bls n (updB g' k true)).toArray) rfl rfl rfl FS rfl (by simp; omega) (D4 g' true)) ?_
    refine Zx <| DC.region ?_
    refine Zm ?_
    refine Zm ?_
    refine Zw (AP (cs := #[_]) rfl rfl Tryz.underlying44 AL BT rfl (by decide) (by decide) rfl rfl) fun g46 => ?_
    refine Seq.gen rfl rfl (AG rfl rfl rfl Tryz.underlying44 AL Dp BT rfl (by decide) (by decide) (fun w hw => hw.sub (List.sublist_cons_self ..)) (.inl ⟨_, _, rfl, Am rfl⟩) rfl (Bm [(k : Int)] []) (by simp [faceL]; omega)) ?_
    rintro v47 _ rfl
    refine Za ?_
    refine Seq.nil <| Fin.inBlock <| Fin.then <| DC.region ?_
    refine Zm ?_
    refine Zm ?_
    refine Zo (Hj rfl rfl rfl (by omega)) ?_
    rw [exor]
    refine Zo (Ah (ad' := ⟨gn, twn k, none⟩) rfl rfl rfl Tryz.underlying44 AL (by omega) (by omega) (by rw [AC]; rfl)) ?_
    refine Zu (Ai rfl rfl AI (Be hval)) ?_
    refine Za ?_
    refine Seq.nil ?_
    refine Fin.again ⟨t + 1, updB g' k true, v47⟩ (by dsimp only; omega) ⟨hnd1, ?_, ?_⟩ ⟨rfl, rfl, rfl, rfl, by rw [hkk]; rfl, rfl, rfl, rfl, trivial⟩ (.cons' 0 rfl (by dsimp only; unfold faceL; rw [List.range_succ, List.map_append, AQ, hkk]; rfl) (Pick.all _))
    ·intro x hx
     dsimp only
     unfold updB
     split
     ·rename_i e; subst e
      simp only [true_iff]
      exact .inr ⟨t, by omega, hkk.symm⟩
     ·rename_i e
      rw [hWse x hx]
      constructor
      ·rintro (h1 | ⟨i, hi, h1⟩)
       ·exact .inl h1
       ·exact .inr ⟨i, by omega, h1⟩
      ·rintro (h1 | ⟨i, hi, h1⟩)
       ·exact .inl h1
       ·rcases Nat.lt_succ_iff_lt_or_eq.1 hi with hi | rfl
        ·exact .inr ⟨i, hi, h1⟩
        ·exact absurd (by rw [hkk, h1]) (Ne.symm e)
    ·intro _ hgh
     by_cases h0 : 0 < t
     ·exact hW.new h0 hgh
     ·have : k = h := by rw [hkk, show t = 0 by omega]; rfl
      exact hgk ((hWse k hk).2 (.inl (by rw [this]; exact hgh)))
   ·refine DC.exit <| Ad <| Ad <| Ag <| Fin.then <| DC.seq ?_
    have hgk : g' k = true := by simpa using c11
    refine DC.slcs (i := 0) rfl (by simp [faceL]; omega) ?_
    rintro A11 c11' rfl _
    have hfl : (faceL f h t).length = t := by simp [faceL]
    rw [hfl]
    refine DC.region ?_
    refine Zm ?_
    refine Zn Tryz.underlying44 ?_
    refine Zo (BC rfl rfl rfl) ?_
    refine Zx ?_
    refine Zd (fun c15 => ?_) fun c15 => ?_
    ·have ht0 : 0 < t := by simp at c15; omega
     have hns : ¬ SeenB (phi f) h h := fun h1 => hW.new ht0 ((hDse h hlt).2 h1)
     have hlead : Lead (phi f) h := by
      apply Classical.byContradiction
      intro h1; exact hns ((EG hP hlt).2 h1)
     have hall := Ih hP hlt ht0 hns (by
      rw [← hkk]
      rcases (hWse k hk).1 hgk with h1 | h1
      ·exact .inl ((hDse k hk).1 h1)
      ·exact .inr h1)
     have hfslen : fs.length ≤ h := by
      have h1 := congrArg List.length hD.heads
      simp only [List.length_map] at h1
      have h2 := List.length_filter_le (fun x => decide (Lead (phi f) x)) (List.range h)
      simp at h2; omega
     refine DC.region ?_
     refine Zm ?_
     refine Zm ?_
     refine Zw (AP (cs := #[_]) rfl rfl Tryz.underlying25 Br CV rfl (by decide) (by decide) rfl rfl) fun g53 => ?_
     refine Seq.gen rfl rfl (AG rfl rfl rfl Tryz.underlying25 Br HN CV rfl (by decide) (by decide) (news := [.slice A11 t c11']) (k := 1) (fun w hw => (hw.sub (List.sublist_cons_self ..)).perm (.swap _ _ _)) (.inl ⟨_, _, rfl, Am rfl⟩) rfl (fun u hu => by rw [List.mem_singleton.1 hu]; rfl) (by simp; omega)) ?_
     rintro v54 _ rfl
     refine Za ?_
     refine Seq.nil <| Fin.inBlock <| Fin.then <| DC.region ?_
     refine Zp ?_
     refine Zm ?_
     refine Seq.nil ?_
     refine Fin.own (M := slc v54 44 1 (rowsV (fs ++ [(.slice A11 t c11', faceL f h t)])) :: blk g24 4 (bls n g').toArray :: blk gn 3 (ints (tab n f)).toArray :: rowsC 3 (fs ++ [(.slice A11 t c11', faceL f h t)])) (fun w hw => ?_) ?_
     ·have e1 : rowsV (fs ++ [(.slice A11 t c11', faceL f h t)]) = rowsV fs ++ [.slice A11 t c11'] := by simp [rowsV]
      have e2 : rowsC 3 (fs ++ [(.slice A11 t c11', faceL f h t)]) = rowsC 3 fs ++ [slc (.slice A11 t c11') 3 1 (ints (faceL f h t))] := by simp [rowsC]
      rw [e1, e2]
      refine hw.perm ?_
      refine List.Perm.cons _ ?_
      have := List.perm_append_comm (l₁ := blk g24 4 (bls n g').toArray :: blk gn 3 (ints (tab n f)).toArray :: rowsC 3 fs) (l₂ := [slc (.slice A11 t c11') 3 1 (ints (faceL f h t))])
      simpa using this
     refine Fin.again ⟨h + 1, g', fs ++ [(.slice A11 t c11', faceL f h t)], v54⟩ (by dsimp only; omega) ⟨by dsimp only; omega, ?_, ?_, ?_⟩ ⟨rfl, rfl, rfl, rfl, rfl, rfl, trivial⟩ (Pick.all _)
     ·intro x hx
      dsimp only
      rw [hWse x hx, hDse x hx, ER hall]
     ·dsimp only
      rw [List.range_succ, List.filter_append, List.map_append, List.map_append, hD.heads]
      congr 1
      have : (faceL f h t).head? = some (h : Int) := by
       obtain ⟨t', rfl⟩ : ∃ t', t = t' + 1 := ⟨t - 1, by omega⟩
       simp [faceL, List.range_succ_eq_map, itr]
      simp [hlead, this]
     ·intro p hp
      rw [List.mem_append] at hp
      rcases hp with hp | hp
      ·exact hD.short p hp
      ·simp at hp; subst hp; dsimp only; omega
    ·refine DC.skip <| Fin.inBlock <| Fin.then <| DC.region ?_
     refine Zp ?_
     refine Zm ?_
     refine Seq.nil ?_
     have ht0 : t = 0 := by simp at c15; omega
     subst ht0
     have hkh : k = h := hkk
     subst hkh
     have hgx : ∀ x, x < n → (g' x = true ↔ g x = true) := fun x hx => by rw [hWse x hx]; simp
     have hs : SeenB (phi f) k k := (hDse k hlt).1 ((hgx k hlt).1 hgk)
     have hnl : ¬ Lead (phi f) k := (EG hP hlt).1 hs
     refine Fin.own (fun w hw => hw.sub (List.sublist_cons_self ..)) ?_
     refine Fin.again ⟨k + 1, g', fs, v9⟩ (by dsimp only; omega) ⟨by dsimp only; omega, ?_, ?_, hD.short⟩ ⟨rfl, rfl, rfl, rfl, rfl, rfl, trivial⟩ (Pick.all _)
     ·intro x hx
      dsimp only
      rw [hgx x hx, hDse x hx, EQ hs]
     ·dsimp only
      rw [List.range_succ, List.filter_append, List.map_append, hD.heads]
      simp [hnl]
  ·refine DC.exit <| Ad <| Ad <| Ag <| Fin.then <| Zs ?_
   refine Zm ?_
   refine Za ?_
   refine Za ?_
   refine Zx <| DC.ret ?_
   have hhn : h = n := by simp at c7; omega
   subst hhn
   refine Fin.own (M := slc v9 44 1 (rowsV fs) :: rowsC 3 fs) (fun w hw => hw.sub (.cons_cons _ (.cons _ (.cons _ (List.Sublist.refl _))))) ?_
   refine AK (.inl rfl) rfl rfl rfl ?_
   refine .inl ⟨hok, v9, fs, f, rfl, hnx, ?_, rfl⟩
   exact ⟨Nat.le_refl _, fun x hx => ⟨fun _ => ⟨x, 0, hx, rfl⟩, fun _ => rfl⟩, hD.heads, hD.short⟩
end Go.Fl

namespace Go.Fl
open Go Go.Proofs
theorem F6 : ∀ {a b : List Int}, a.Nodup → (∀ x, x ∈ a → x ∈ b) → a.length ≤ b.length
 | [], b, _, _ => by simp
 | x :: r, b, hn, hs => by
  rw [List.nodup_cons] at hn
  have hx : x ∈ b := hs x (by simp)
  have ih := F6 (a := r) (b := b.erase x) hn.2 (fun y hy => (List.mem_erase_of_ne (fun e => hn.1 (by rw [← e]; exact hy))).2 (hs y (by simp [hy])))
  have := List.length_erase_of_mem hx
  have : 0 < b.length := List.length_pos_of_mem hx
  simp; omega
theorem mod_inj {i j n : Nat} (hi : i < n) (hj : j < n) (h : (i + 1) % n = (j + 1) % n) : i = j := by
 have e : ∀ k, k < n → (k + 1) % n = if k + 1 = n then 0 else k + 1 := by
  intro k hk
  split
  ·rename_i h1; rw [h1, Nat.mod_self]
  ·exact Nat.mod_eq_of_lt (by omega)
 rw [e i hi, e j hj] at h
 split at h <;> split at h <;> omega
theorem E0 {N : Int} {es : List Pr} {rs : List (List Int)} (hok : RotL N es rs) {h : Nat} (hh : h < es.length * 2) :
  ∃ (v : Nat) (l : List Int) (i : Nat), rs[v]? = some l ∧ l[i]? = some (h : Int) ∧ fromV es h = v := by
 obtain ⟨hV, hN, hrow⟩ := hok
 obtain ⟨e, a, he, hcase⟩ := Cn (es := es) (h := (h : Int)) (by omega) (by omega)
 have ho := hV.ok e a he
 have h1 := ho.lo
 have h2 := ho.lt
 have h3 := ho.hi
 have hb : 0 ≤ fromV es h ∧ fromV es h < N := by
  rcases hcase with ⟨_, h4, _⟩ | ⟨_, h4, _⟩ <;> rw [h4] <;> omega
 obtain ⟨v, hv⟩ := Int.eq_ofNat_of_zero_le hb.1
 obtain ⟨l, hl⟩ : ∃ l, rs[v]? = some l := ⟨_, List.getElem?_eq_getElem (by omega)⟩
 obtain ⟨hfr, hnd, hcnt⟩ := hrow v l hl
 have hmem : (h : Int) ∈ l := by
  apply Classical.byContradiction
  intro hno
  have hle := F6 (a := (h : Int) :: l) (b := outs es v) (List.nodup_cons.2 ⟨hno, hnd⟩) (fun x hx => by
   rcases List.mem_cons.1 hx with rfl | hx
   ·exact (Bl hV).2 ⟨by omega, by omega, hv⟩
   ·exact (Bl hV).2 (hfr x hx))
  unfold cnt at hcnt
  simp only [List.length_cons] at hle
  omega
 obtain ⟨i, hi⟩ := List.mem_iff_getElem?.1 hmem
 exact ⟨v, l, i, hl, hi, hv⟩
theorem GI {N : Int} {es : List Pr} {rs : List (List Int)} {f : Nat → Int} (hok : RotL N es rs) (hnx : NxOk rs rs.length f) : Perm (es.length * 2) (phi f) ∧ ∀ h, h < es.length * 2 → 0 ≤ f h := by
 have hrow := hok.2.2
 have next : ∀ {v : Nat} {l : List Int} {i h : Nat}, rs[v]? = some l → l[i]? = some (h : Int) → l[(i + 1) % l.length]? = some (f h) ∧ 0 ≤ f h ∧ f h < es.length * 2 ∧ fromV es (f h) = v := by
  intro v l i h hl hi
  have h1 := hnx v l i h (List.getElem?_eq_some_iff.1 hl).1 hl hi
  rw [Int.toNat_natCast] at h1
  obtain ⟨h2, h3, h4⟩ := (hrow v l hl).1 _ (List.mem_of_getElem? h1)
  exact ⟨h1, h2, h3, h4⟩
 have hf0 : ∀ h, h < es.length * 2 → 0 ≤ f h := fun h hh => by
  obtain ⟨v, l, i, hl, hi, _⟩ := E0 hok hh
  exact (next hl hi).2.1
 have htw : ∀ h, h < es.length * 2 → twn h < es.length * 2 := fun h hh => by unfold twn; split <;> omega
 have htinj : ∀ a b, twn a = twn b → a = b := fun a b e => by unfold twn at e; split at e <;> split at e <;> omega
 refine ⟨⟨fun h hh => ?_, fun a b ha hb e => ?_⟩, hf0⟩
 ·obtain ⟨v, l, i, hl, hi, _⟩ := E0 hok (htw h hh)
  have := next hl hi
  unfold phi; omega
 ·obtain ⟨v, l, i, hl, hi, hv⟩ := E0 hok (htw a ha)
  obtain ⟨v', l', i', hl', hi', hv'⟩ := E0 hok (htw b hb)
  obtain ⟨n1, n2, n3, n4⟩ := next hl hi
  obtain ⟨m1, m2, m3, m4⟩ := next hl' hi'
  have hff : f (twn a) = f (twn b) := by unfold phi at e; omega
  have hvv : v = v' := by rw [hff] at n4; omega
  subst hvv
  rw [hl] at hl'; cases hl'
  have hnd := (hrow v l hl).2.1
  have hil := (List.getElem?_eq_some_iff.1 hi).1
  have hil' := (List.getElem?_eq_some_iff.1 hi').1
  have hmm := (List.getElem?_inj (Nat.mod_lt _ (by omega)) hnd).1 (n1.trans ((congrArg some hff).trans m1.symm))
  have hii := mod_inj hil hil' hmm
  subst hii
  rw [hi] at hi'
  have : twn a = twn b := by have := Option.some.inj hi'; omega
  exact htinj a b this
end Go.Fl

namespace Go.Fl
open Go
theorem FE {α : Type} (b : α → Nat) : ∀ {l : List α} {j : Nat} {e : α}, (l.map b).Nodup → l[j]? = some e → l.filter (fun x => b x != b e) = l.eraseIdx j
 | [], j, e, _, h => by simp at h
 | x :: r, 0, e, hn, h => by
  simp at h; subst h
  simp only [List.map_cons, List.nodup_cons] at hn
  rw [List.filter_cons, if_neg (by simp), List.eraseIdx_cons_zero, List.filter_eq_self]
  intro y hy
  have : b y ≠ b x := fun e => hn.1 (by rw [← e]; exact List.mem_map_of_mem hy)
  simpa using this
 | x :: r, j + 1, e, hn, h => by
  simp only [List.getElem?_cons_succ] at h
  simp only [List.map_cons, List.nodup_cons] at hn
  have : b x ≠ b e := fun e' => hn.1 (by rw [e']; exact List.mem_map_of_mem (List.mem_of_getElem? h))
  rw [List.filter_cons, if_pos (by simpa using this), List.eraseIdx_cons_succ, FE b hn.2 h]
section
variable {κ : Type} [DecidableEq κ]
/-- A map and an iterator over it; 'left': the entries that have not come yet; 'last': the one that came last. -/
def mit (enc : κ → Value) (gm gi : Nat) (m left : List (κ × Value)) (last : Option (κ × Value)) : Chunk :=
 ⟨[gm, gi], fun w => ∃ es clock seen, w.heap[gm]? = some (.map es clock) ∧ es.toList.map (fun e => (e.key, e.val)) = m.map (fun p => (enc p.1, p.2)) ∧ (es.toList.map (·.born)).Nodup ∧ (∀ e, e ∈ es.toList → e.born < clock) ∧
   w.heap[gi]? = some (.mapIter (some gm) clock seen clock) ∧ (leftOf es seen).toList.map (fun e => (e.key, e.val)) = left.map (fun p => (enc p.1, p.2)) ∧
   ∀ p, last = some p → ∃ (e : MapEntry) (s0 : Array Nat), e ∈ es.toList ∧ seen = s0.push e.born ∧ e.key = enc p.1 ∧ e.val = p.2,
  fun w w' h hh => by
   obtain ⟨es, c, s, h1, h2, h3, h4, h5, h6⟩ := hh
   exact ⟨es, c, s, (h gm (by simp)).trans h1, h2, h3, h4, (h gi (by simp)).trans h5, h6⟩⟩
variable {P : Program} {w0 w : World} {K : List Nat} {n : Nat} {ds : List Deferred} {E : Env} {L : List Chunk} {o : Oper} {x : Operand} {v : Value} {enc : κ → Value} {m left : List (κ × Value)} {gm gi : Nat} {v0 : Option (κ × Value)}
theorem g_range {t kt et : TypeId} (i : Nat) (hi : L[i]? = some (mpc enc gm m)) (ho : o.op = .range t x) (hx : ev n E x = some (.map (some gm))) (ht : P.underlying t = some (.map kt et)) :
  Gen P w0 K n ds E L o (fun v M => ∃ gi, v = .pointer (some ⟨gi, 0, none⟩) ∧ M = L.set i (mit enc gm gi m m none)) := by
 intro a w ha hw
 obtain ⟨es, clock, h1, h2, h3, h4⟩ := EK i hi hw
 have hlt : gm < w.heap.size := (Array.getElem?_eq_some_iff.1 h1).1
 have hr : (execOp a.eval o).run P w = .ok (.value (.pointer (some ⟨w.heap.size, 0, none⟩))) (w.alloc (.mapIter (some gm) clock #[] clock)) := by
  have hg : (getObj gm).run P w = .ok (.map es clock) w := by simp [getObj, Sem.run, h1]
  simp only [execOp, ho, ha.ev hx, Instr.range, Sem.run_bind, run_underlying ht, Result.andThen_ok, hg, Sem.run_pure]
  rfl
 refine RunsTo.value hr ⟨_, ⟨w.heap.size, rfl, rfl⟩, ?_⟩
 have hO : Own w [gm] (w.alloc (.mapIter (some gm) clock #[] clock)) [mit enc gm w.heap.size m m none] := by
  refine ⟨rfl, rfl, rfl, Lo.refl _, by simp, fun k hk hn => ?_, ?_, fun g hg => ?_, fun g hg => ?_, fun c hc => ?_⟩
  ·simp only [World.alloc, Array.getElem?_push]; rw [if_neg (by omega)]
  ·simp [mit]; exact fun e => by omega
  ·simp [mit] at hg; rcases hg with rfl | rfl
   ·exact .inl (by simp)
   ·exact .inr (Nat.le_refl _)
  ·simp [mit] at hg; rcases hg with rfl | rfl
   ·simp; omega
   ·simp
  ·simp at hc; subst hc
   refine ⟨es, clock, #[], ?_, h2, h3, h4, ?_, ?_, fun p hp => by cases hp⟩
   ·simp only [World.alloc, Array.getElem?_push]; rw [if_neg (by omega)]; exact h1
   ·simp only [World.alloc, Array.getElem?_push]; rw [if_pos trivial]
   ·have : leftOf es #[] = es := by simp [leftOf]
    rw [this]; exact h2
 exact (Own.frame (Lc := [mpc enc gm m]) (hw.perm (AH hi).symm) hO (fun k hk => by simp [mpc] at hk ⊢; exact hk)).perm (Et hi)
theorem g_next (i : Nat) (hi : L[i]? = some (mit enc gm gi m left v0)) (ho : o.op = .next x false) (hx : ev n E x = some (.pointer (some ⟨gi, 0, none⟩))) :
  Gen P w0 K n ds E L o (fun v M => (v = .tuple #[.bool false] ∧ left = [] ∧ M = L) ∨ (∃ j p, left[j]? = some p ∧ v = .tuple #[.bool true, enc p.1, p.2] ∧ M = L.set i (mit enc gm gi m (left.eraseIdx j) (some p)))) := by
 intro a w ha hw
 obtain ⟨es, clock, seen, h1, h2, h3, h4, h5, h6, h7⟩ := EK i hi hw
 rcases run_next_at (P := P) w o.type gi gm clock clock seen es clock h5 h1 h4 (Nat.le_refl _) with ⟨hz, hr⟩ | ⟨e, he, w1, hw1, hr⟩
 ·have hl : left = [] := by
   have := congrArg List.length h6
   simp only [List.length_map, Array.length_toList, hz] at this
   exact List.eq_nil_of_length_eq_zero this.symm
  refine RunsTo.value (v := .tuple #[.bool false]) (w' := w) (by simp only [execOp, ho, ha.ev hx, Sem.run_bind, hr, Result.andThen_ok, Sem.run_pure]) ⟨L, .inl ⟨rfl, hl, rfl⟩, hw⟩
 ·obtain ⟨j, hj⟩ := List.mem_iff_getElem?.1 he
  have hpj : ∃ p, left[j]? = some p ∧ e.key = enc p.1 ∧ e.val = p.2 := by
   have h8 : ((leftOf es seen).toList.map fun e => (e.key, e.val))[j]? = some (e.key, e.val) := by rw [List.getElem?_map, hj]; rfl
   rw [h6, List.getElem?_map, Option.map_eq_some_iff] at h8
   obtain ⟨p, hp, hpe⟩ := h8
   exact ⟨p, hp, (congrArg Prod.fst hpe).symm, (congrArg Prod.snd hpe).symm⟩
  obtain ⟨p, hp, hk, hv⟩ := hpj
  have hees : e ∈ es.toList := by
   unfold leftOf at he
   rw [Array.toList_filter] at he
   exact (List.mem_filter.1 he).1
  refine RunsTo.value (v := .tuple #[.bool true, enc p.1, p.2]) (w' := ChangeMaps.setBlock w1 gi (.mapIter (some gm) clock (seen.push e.born) clock)) (by simp only [execOp, ho, ha.ev hx, Sem.run_bind, hr, Result.andThen_ok, Sem.run_pure, hk, hv]) ⟨_, .inr ⟨j, p, hp, rfl, rfl⟩, ?_⟩
  have hw1' : Own w0 K w1 L := by
   rcases hw1 with rfl | rfl
   ·exact hw
   ·exact hw.drew
  have hheap : w1.heap = w.heap := by rcases hw1 with rfl | rfl <;> rfl
  have hne : gm ≠ gi := by
   intro e
   rw [e, h5] at h1; cases h1
  have hlm : gm < w1.heap.size := by rw [hheap]; exact (Array.getElem?_eq_some_iff.1 h1).1
  have hli : gi < w1.heap.size := by rw [hheap]; exact (Array.getElem?_eq_some_iff.1 h5).1
  have hO : Own w1 [gm, gi] (ChangeMaps.setBlock w1 gi (.mapIter (some gm) clock (seen.push e.born) clock)) [mit enc gm gi m (left.eraseIdx j) (some p)] := by
   refine ⟨rfl, rfl, rfl, Lo.refl _, by simp [ChangeMaps.setBlock], fun k hk hn => ?_, by simp [mit, hne], fun g hg => .inl (by simpa [mit] using hg), fun g hg => ?_, fun c hc => ?_⟩
   ·simp at hn
    show (w1.heap.setIfInBounds gi _)[k]? = _
    rw [Array.getElem?_setIfInBounds_ne (by omega)]
   ·simp [mit] at hg
    rcases hg with rfl | rfl <;> simpa [ChangeMaps.setBlock]
   ·simp at hc; subst hc
    refine ⟨es, clock, seen.push e.born, ?_, h2, h3, h4, ?_, ?_, fun p' hp' => ?_⟩
    ·show (w1.heap.setIfInBounds gi _)[gm]? = _
     rw [Array.getElem?_setIfInBounds_ne (by omega), hheap]; exact h1
    ·show (w1.heap.setIfInBounds gi _)[gi]? = _
     simp [hli]
    ·have hnd : ((leftOf es seen).toList.map (·.born)).Nodup := by
      unfold leftOf
      rw [Array.toList_filter]
      exact h3.sublist ((List.filter_sublist).map _)
     have e1 : (leftOf es (seen.push e.born)).toList = (leftOf es seen).toList.filter (fun x => x.born != e.born) := by
      unfold leftOf
      rw [Array.toList_filter, Array.toList_filter, List.filter_filter]
      apply List.filter_congr
      intro y _
      by_cases hye : y.born = e.born
      ·simp [hye]
      ·have hye' : ¬ e.born = y.born := fun h => hye h.symm
       simp [hye, bne]
     rw [e1, FE (·.born) hnd hj, ChangeMaps.map_eraseIdx, h6, ChangeMaps.map_eraseIdx]
    ·cases hp'
     exact ⟨e, seen, hees, rfl, hk, hv⟩
  exact (Own.frame (Lc := [mit enc gm gi m left v0]) (hw1'.perm (AH hi).symm) hO (fun k hk => by simpa [mit] using hk)).perm (Et hi)
theorem v_entry {p : κ × Value} (i : Nat) (hi : L[i]? = some (mit enc gm gi m left (some p))) (ho : o.op = .entry x) (hx : ev n E x = some (.pointer (some ⟨gi, 0, none⟩))) : Val P w0 K n ds E L o (.tuple #[enc p.1, p.2]) := by
 intro a w ha hw
 obtain ⟨es, clock, seen, h1, h2, h3, h4, h5, h6, h7⟩ := EK i hi hw
 obtain ⟨e, s0, he, rfl, hk, hv⟩ := h7 p rfl
 have := run_entry_at (P := P) w gi gm clock s0 es clock e h5 h1 he h3
 simp only [execOp, ho, ha.ev hx, Sem.run_bind, this, Result.andThen_ok, Sem.run_pure, hk, hv]
end
section
variable {P : Program} {n : Nat} {ds : List Deferred} {E : Env} {o : Oper} {x y : Operand}
theorem p_quo2 {t t' : TypeId} {i q : Int} (ho : o.op = .binOp .quo t x y t') (hx : ev n E x = some (.int .i64 i)) (hy : ev n E y = some (.int .i64 2)) (hi : i = 2 * q) (hq : -9223372036854775808 ≤ q ∧ q ≤ 9223372036854775807) :
  Pur P n ds E o (.int .i64 q) := C3 (r := 0) ho hx hy fun w => by
 have h1 : i.tdiv 2 = q := by rw [hi]; exact Int.mul_tdiv_cancel_left _ (by omega)
 simp [binOp, Op.intDiv, h1, DJ (i := q) ⟨by omega, by omega⟩]
end
end Go.Fl
