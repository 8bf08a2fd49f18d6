/- Part 4 of the proof: the library of the walk and the walks, in build order; no condition. -/
import Derived.Test.YthjmapekjggdjaaGreatDoorZF3
set_option linter.unusedVariables false
set_option linter.unusedSimpArgs false
set_option linter.unusedSectionVars false
set_option maxRecDepth 100000
namespace Go.Fl
open Go Go.Proofs
theorem PrV.src2 {w0 w : World} {L : List Chunk} {v : Value} {es : List Pr} (h : PrV w0 v es) : Src w0 [] L v es.length (prs es) := by
 obtain ⟨A, cap, rfl, hr, _, _, _⟩ := h
 refine J4 (m := 2) hr (by simp) (by simp) (fun hA => ?_)
 subst hA
 cases es with
 | nil => rfl
 | cons e r => obtain ⟨ad, e', _⟩ := hr.pair (i := 0) (e := e) rfl; cases e'
theorem SlV.src2 {w0 w : World} {L : List Chunk} {v : Value} {xs : List Int} (h : SlV w0 v xs) : Src w0 [] L v xs.length (ints xs) := by
 obtain ⟨A, cap, rfl, hr, _, _, _⟩ := h
 refine J4 (m := 1) hr (by simp) (by simp) (fun hA => ?_)
 subst hA
 cases xs with
 | nil => rfl
 | cons e r => obtain ⟨ad, e', _⟩ := hr.int (i := 0) (x := e) rfl; cases e'
/-- Lists of ours, seen as lists that are read. -/
theorem H7 {w0 w : World} {K : List Nat} {F : List Chunk} {t t' : Nat} {v : Value} {rs : RL} (hw : Own w0 K w (slc v t' 1 (rowsV rs) :: (F ++ rowsC t rs))) (hb : rs.length ≤ 17592186044416) (hf : ∀ p, p ∈ rs → p.2.length ≤ 17592186044416) : LsV w v (rs.map Prod.snd) := by
 obtain ⟨A, len, cap, rfl, hl, hr, h1, h2⟩ := CE hw
 rw [rowsV_length, Nat.mul_one] at hl
 subst hl
 refine ⟨A, cap, by simp, fun i l hi => ?_, by simpa using h1, h2, by simpa using hb⟩
 rw [List.getElem?_map, Option.map_eq_some_iff] at hi
 obtain ⟨p, hp, rfl⟩ := hi
 have hg : (rowsV rs)[i]? = some p.1 := by simp [rowsV, hp]
 obtain ⟨ad, hA, hc⟩ := hr i p.1 hg
 refine ⟨ad, p.1, hA, hc, Gi (F := slc (.slice A rs.length cap) t' 1 (rowsV rs) :: F) (by simpa using hw) hp (hf p (List.mem_of_getElem? hp))⟩
structure CcI where
 i : Nat
 v : Value
 rs : RL
theorem G2 {pl : Bool} {ls : List (List Int)} {cs : List Pr} {v u : Value} {w : World} (hv : LsV w v ls) (hu : PrV w u cs) (hn : ls.length ≤ 1000000000) (hs : ∀ l, l ∈ ls → l.length ≤ 1000000000) :
  Calls Tryz.prog 12 #[.agg #[.bool pl, v, u]] w (Ret w [] fun r L => ∃ Av lv cv Au lu cu rs, r = .agg #[.bool pl, .slice Av lv cv, .slice Au lu cu] ∧ rs.map Prod.snd = ls ∧
   L = slc (.slice Av lv cv) 44 1 (rowsV rs) :: slc (.slice Au lu cu) 43 2 (prs cs) :: rowsC 3 rs) := by
 have hu0 := hu
 obtain ⟨Al, cl, rfl, hr, hlc, hcm, hle⟩ := hv
 obtain ⟨Ac, cc, rfl, hrc, hlcc, hcmc, hlec⟩ := hu
 refine At (args := [_]) (L := []) Tryz.func12 rfl Tryz.ntmps12 rfl (Own.start _ _) ?_
 refine Zs ?_
 refine Zw (AS rfl rfl rfl) fun g1 => ?_
 refine Zw (AH rfl LK rfl) fun g2 => ?_
 refine Zx <| DC.seq ?_
 refine AG (cl := [.q, .v, .n, .q, .v, .r, .q, .n, .g]) (A := [0, 1, 0, 0, 8, 28, 63, 0, 255]) (order := [0, 1, 3, 4, 2, 5, 6, 7, 8]) [] mixed (by kernel_rfl) (fun w hw => hw.pick .nil) ?_
 refine Yf KD ?_
 refine Yl ag4 ?_
 refine Yf GK ?_
 refine Yl BO ?_
 refine AY rfl rfl rfl rfl (AP (cs := #[]) rfl rfl Tryz.underlying22 Bb CI rfl (by decide) (by decide) rfl rfl) fun g7 => ?_
 refine BP rfl rfl rfl rfl (Fm rfl rfl rfl Tryz.underlying22 Bb by43 CI rfl (by decide) (by decide) (PrV.src2 (w := w) hu0) (by simp) (by omega)) ?_
 rintro _ _ ⟨⟨Au, lu, cu, rfl⟩, rfl⟩
 refine Yo rfl (AD (cs := #[_, _, _]) rfl rfl bs27 rfl rfl) ?_
 refine AY rfl rfl rfl rfl (AH rfl LK rfl) fun g3 => ?_
 refine Flow.sto (V := [blk g3 27 #[.bool false, .slice none 0 0, .slice none 0 0], ap0 (.slice Au lu cu) g7 43 2 (prs cs), blk g7 43 #[], blk g2 27 #[.bool false, .slice none 0 0, .slice none 0 0], blk g1 27 #[.bool pl, .slice Al ls.length cl, .slice Ac cs.length cc]]) rfl rfl rfl rfl rfl (AA (cs' := #[_, _, _]) rfl rfl rfl De rfl (Nat.le_of_ble_eq_true rfl) rfl) (fun w hw => hw.pick (.nil)) ?_
 refine Flow.end rfl ?_
 simp only [zq, zr]
 refine Fin.then <| DC.seq <| Zs ?_
 refine Za ?_
 refine Zx <| DC.block ?_
 refine DC.own (M := slc (.slice none 0 0) 44 1 [] :: blk g3 27 #[.bool pl, .slice none 0 0, .slice Au lu cu] :: slc (.slice Au lu cu) 43 2 (prs cs) :: blk g2 27 #[.bool false, .slice none 0 0, .slice none 0 0] :: blk g1 27 #[.bool pl, .slice Al ls.length cl, .slice Ac cs.length cc] :: rowsC 3 []) (fun w hw => Bm (t := 44) (m := 1) ?_) ?_
 ·have k3 : Own _ _ w (slc _ _ _ _ :: _) := H3 (by decide) (hw.pick (.cons 1 rfl (.cons 1 rfl (Pick.all _))))
  exact k3.pick (.cons 1 rfl (.cons 0 rfl (Pick.all _)))
 refine DC.loop (ι := CcI) (fun j => j.i ≤ ls.length ∧ j.rs.map Prod.snd = ls.take j.i)
  (fun j => [(1, .pointer (some ⟨g1, 0, none⟩)), (2, .pointer (some ⟨g2, 0, none⟩)), (3, .pointer (some ⟨g3, 0, none⟩)), (4, .int .i64 j.i)])
  (fun j => slc j.v 44 1 (rowsV j.rs) :: blk g3 27 #[.bool pl, j.v, .slice Au lu cu] :: slc (.slice Au lu cu) 43 2 (prs cs) :: blk g2 27 #[.bool false, .slice none 0 0, .slice none 0 0] :: blk g1 27 #[.bool pl, .slice Al ls.length cl, .slice Ac cs.length cc] :: rowsC 3 j.rs) (fun j => ls.length - j.i) ⟨0, .slice none 0 0, []⟩ ⟨Nat.zero_le _, rfl⟩ ⟨rfl, rfl, rfl, rfl, trivial⟩ (Pick.all _) ?_
 rintro ⟨i, v, rs⟩ ⟨hi, hrs⟩
 dsimp only at hi hrs ⊢
 have hrl : rs.length = i := by have := congrArg List.length hrs; simp at this; omega
 refine DC.seq <| Zs ?_
 refine Zm ?_
 refine Zf D9 ?_
 refine Zl FS ?_
 refine Zn Tryz.underlying25 ?_
 refine Zc ?_
 refine Zx ?_
 refine Zd (fun c3 => ?_) fun c3 => ?_
 ·have hlt : i < ls.length := by simpa using c3
  obtain ⟨l, hl⟩ : ∃ l, ls[i]? = some l := ⟨_, List.getElem?_eq_getElem hlt⟩
  obtain ⟨ad, lv, rfl, hc, hsl⟩ := hr i l hl
  have hll := hs l (List.mem_of_getElem? hl)
  have hlsh : ∃ A c, lv = .slice A l.length c := by obtain ⟨A, c, h, _⟩ := hsl; exact ⟨A, c, h⟩
  obtain ⟨Ax, cx, rfl⟩ := hlsh
  refine DC.skip <| Fin.then <| DC.seq <| DC.block ?_
  refine AG (cl := [.q, .v, .n, .q, .v, .q, .q, .v, .r, .n, .g, .q, .g]) (A := [0, 1, 0, 0, 8, 0, 56, 120, 252, 508, 1023, 2047, 4095]) (order := [0, 1, 3, 4, 5, 6, 7, 2, 8, 9, 10, 11, 12]) [] mixed (by kernel_rfl) (fun w hw => hw.pick .nil) ?_
  refine Yf D9 ?_
  refine Yl FS ?_
  refine Yf D9 ?_
  refine Yl FS ?_
  refine Ym ?_
  refine Yo rfl (Ai (ad' := ad.add i) rfl rfl rfl Tryz.underlying25 Bn (by omega) (by omega) rfl) ?_
  refine Am rfl rfl rfl rfl (Ah rfl rfl Bo (AE hc)) ?_
  refine AY rfl rfl rfl rfl (AP (cs := #[]) rfl rfl Tryz.underlying44 AN B6 rfl (by decide) (by decide) rfl rfl) fun g21 => ?_
  refine BP rfl rfl rfl rfl (Fm rfl rfl rfl Tryz.underlying44 AN DP B6 rfl (by decide) (by decide) (SlV.src2 (w := w) hsl) (by simp) (by omega)) ?_
  rintro _ _ ⟨⟨A27, l27, c27, rfl⟩, rfl⟩
  refine AY rfl rfl rfl rfl (AP (cs := #[_]) rfl rfl Tryz.underlying25 Bn CH rfl (by decide) (by decide) rfl rfl) fun g28 => ?_
  refine Cu (V := (blk g28 44 #[.slice A27 l27 c27] :: ap0 (.slice A27 l27 c27) g21 3 1 (ints l) :: blk g21 3 #[] :: slc v 44 1 (rowsV rs) :: blk g3 27 #[.bool pl, v, .slice Au lu cu] :: slc (.slice Au lu cu) 43 2 (prs cs) :: blk g2 27 #[.bool false, .slice none 0 0, .slice none 0 0] :: blk g1 27 #[.bool pl, .slice (some ad) ls.length cl, .slice Ac cs.length cc] :: rowsC 3 rs)) rfl rfl rfl rfl rfl ((AR (F := blk g28 44 #[.slice A27 l27 c27] :: ap0 (.slice A27 l27 c27) g21 3 1 (ints l) :: blk g21 3 #[] :: blk g3 27 #[.bool pl, v, .slice Au lu cu] :: slc (.slice Au lu cu) 43 2 (prs cs) :: blk g2 27 #[.bool false, .slice none 0 0, .slice none 0 0] :: blk g1 27 #[.bool pl, .slice (some ad) ls.length cl, .slice Ac cs.length cc] :: rowsC 3 rs) (vs := rowsV rs) (news := [.slice A27 l27 c27]) (k := 1) rfl rfl rfl Tryz.underlying25 Bn GT CH rfl (by decide) (by decide) (fun w hw => hw.pick (.cons 3 rfl (Pick.all _))) (.inl ⟨_, _, rfl, Ak rfl⟩) rfl (fun u hu => by rw [List.mem_singleton.1 hu]; rfl) (by simp; omega)).shape) (fun v L' hC w hw => hw.pick (.nil)) ?_
  rintro _ _ ⟨⟨A29, l29, c29, rfl⟩, rfl⟩
  refine Yf D9 ?_
  refine AL rfl rfl rfl rfl (AF (cs' := #[_, _, _]) rfl rfl rfl sz25 rfl (Nat.le_of_ble_eq_true rfl) rfl) (fun w hw => hw.pick (.nil)) ?_
  refine Flow.end rfl ?_
  simp only [zq, zr]
  refine Fin.inBlock <| Fin.then <| DC.region ?_
  refine Zm ?_
  refine Zp ?_
  refine Za ?_
  refine Seq.nil ?_
  refine Fin.own (M := slc (.slice A29 l29 c29) 44 1 (rowsV (rs ++ [(.slice A27 l27 c27, l)])) :: blk g3 27 #[.bool pl, .slice A29 l29 c29, .slice Au lu cu] :: slc (.slice Au lu cu) 43 2 (prs cs) :: blk g2 27 #[.bool false, .slice none 0 0, .slice none 0 0] :: blk g1 27 #[.bool pl, .slice (some ad) ls.length cl, .slice Ac cs.length cc] :: rowsC 3 (rs ++ [(.slice A27 l27 c27, l)])) (fun w hw => ?_) ?_
  ·have e1 : rowsV (rs ++ [(.slice A27 l27 c27, l)]) = rowsV rs ++ [.slice A27 l27 c27] := by simp [rowsV]
   have e2 : rowsC 3 (rs ++ [(.slice A27 l27 c27, l)]) = rowsC 3 rs ++ [slc (.slice A27 l27 c27) 3 1 (ints l)] := by simp [rowsC]
   rw [e1, e2]
   have k3 : Own _ _ w (slc _ _ _ _ :: _) := H3 (by decide) (hw.pick (.cons 2 rfl (.cons 2 rfl (.cons 0 rfl (.cons 1 rfl (.cons 1 rfl (.cons 1 rfl (.cons 1 rfl (BJ _ _)))))))))
   refine k3.perm ?_
   exact List.perm_append_comm (l₁ := slc (.slice A29 l29 c29) 44 1 (rowsV rs ++ [.slice A27 l27 c27]) :: blk g3 27 #[.bool pl, .slice A29 l29 c29, .slice Au lu cu] :: slc (.slice Au lu cu) 43 2 (prs cs) :: blk g2 27 #[.bool false, .slice none 0 0, .slice none 0 0] :: blk g1 27 #[.bool pl, .slice (some ad) ls.length cl, .slice Ac cs.length cc] :: rowsC 3 rs) (l₂ := [slc (.slice A27 l27 c27) 3 1 (ints l)])
  refine Fin.again ⟨i + 1, .slice A29 l29 c29, rs ++ [(.slice A27 l27 c27, l)]⟩ (by dsimp only; omega) ⟨by dsimp only; omega, by dsimp only; rw [List.map_append, hrs, List.take_add_one, hl]; rfl⟩ ⟨rfl, rfl, rfl, rfl, trivial⟩ (Pick.all _)
 ·refine DC.exit <| Ad <| Ad <| Ag <| Fin.then <| DC.seq ?_
  have hie : i = ls.length := by simp at c3; omega
  refine Fd (i := 0) (v := v) rfl ?_
  rintro Av cv rfl hAv
  refine DC.region ?_
  refine Zu (Ay (vs := [_, _, _]) rfl rfl Fa De rfl (Ak rfl)) ?_
  refine Zy (AA (cs' := #[_, _, _]) rfl rfl rfl De rfl (Nat.le_of_ble_eq_true rfl) rfl) ?_
  refine Zx <| DC.ret ?_
  refine BX (cs := #[_, _, _]) (.inl rfl) rfl rfl Fa De ?_
  refine ⟨slc (.slice Av (rowsV rs).length cv) 44 1 (rowsV rs) :: slc (.slice Au lu cu) 43 2 (prs cs) :: rowsC 3 rs, fun w hw => ?_, Av, _, cv, Au, lu, cu, rs, rfl, by rw [hrs, hie, List.take_length], rfl⟩
  exact hw.pick (.cons 0 rfl (.cons 1 rfl (Fq _ (Fq _ (BJ _ _)))))
theorem HX (a b c d : Int) (w : World) : Calls Tryz.prog 35 #[.agg #[.int .i64 a, .int .i64 b], .agg #[.int .i64 c, .int .i64 d]] w (Ret w [] fun v L => L = [] ∧ ∃ r, v = .bool r ∧ (r = true ↔ Lex (a, b) (c, d))) := by
 refine At (args := [_, _]) (L := []) Tryz.func35 rfl Tryz.ntmps35 rfl (Own.start _ _) ?_
 refine Zs ?_
 refine Zw (AS rfl rfl rfl) fun g2 => ?_
 refine Zw (AS rfl rfl rfl) fun g3 => ?_
 refine Za ?_
 refine Zx <| Zs ?_
 refine Zf Bd ?_
 refine Zl AO ?_
 refine Zf Bd ?_
 refine Zl AO ?_
 refine Zc ?_
 refine Zm ?_
 refine Seq.split 10 rfl (fun k1_5 => ?_) (fun k1_5 => ?_)
 ·refine Zk ?_
  refine Zk ?_
  refine Zk ?_
  refine Zk ?_
  refine Zk ?_
  refine Zk ?_
  refine Zk ?_
  refine Zk ?_
  refine Zk ?_
  refine Zk ?_
  refine Zk ?_
  refine Zk ?_
  refine Zt ?_
  refine Za ?_
  refine Zx <| DC.ret ?_
  refine Fin.weak (E' := [(4, _)]) ⟨rfl, trivial⟩ .nil ?_
  refine Aj (.inl rfl) rfl rfl ?_
  refine ⟨rfl, _, rfl, ?_⟩
  unfold Lex
  first
  | (simp at k1_5 ⊢; omega)
  | (simp at k1_5 k1_11 ⊢; omega)
 ·refine Zf Bd ?_
  refine Zl AO ?_
  refine Zf Bd ?_
  refine Zl AO ?_
  refine Zo (AX rfl rfl rfl) ?_
  refine Zm ?_
  refine Seq.split 16 rfl (fun k1_11 => ?_) (fun k1_11 => ?_)
  ·refine Zf Bu ?_
   refine Zl AO ?_
   refine Zf Bu ?_
   refine Zl AO ?_
   refine Zc ?_
   refine Zt ?_
   refine Zg ?_
   refine Za ?_
   refine Zx <| DC.ret ?_
   refine Fin.weak (E' := [(4, _)]) ⟨rfl, trivial⟩ .nil ?_
   refine Aj (.inl rfl) rfl rfl ?_
   refine ⟨rfl, _, rfl, ?_⟩
   unfold Lex
   first
   | (simp at k1_5 ⊢; omega)
   | (simp at k1_5 k1_11 ⊢; omega)
  ·refine Zk ?_
   refine Zk ?_
   refine Zk ?_
   refine Zk ?_
   refine Zk ?_
   refine Zg ?_
   refine Zg ?_
   refine Za ?_
   refine Zx <| DC.ret ?_
   refine Fin.weak (E' := [(4, _)]) ⟨rfl, trivial⟩ .nil ?_
   refine Aj (.inl rfl) rfl rfl ?_
   refine ⟨rfl, _, rfl, ?_⟩
   unfold Lex
   first
   | (simp at k1_5 ⊢; omega)
   | (simp at k1_5 k1_11 ⊢; omega)
theorem Db {N : Int} {es : List Pr} {va : Value} {w : World} (hg : PrV w va es) :
  Calls Tryz.prog 14 #[.agg #[.int .i64 N, va]] w (Ret w [] fun v L => L = [] ∧ ∃ b, v = .bool b ∧ (b = true ↔ Vld N es)) := by
 obtain ⟨A, cap, rfl, hr, hlc, hcm, hl⟩ := hg
 refine At (args := [_]) (L := []) Tryz.func14 rfl Tryz.ntmps14 rfl (Own.start _ _) ?_
 refine Zs ?_
 refine Zw (AS rfl rfl rfl) fun g1 => ?_
 refine Za ?_
 refine Zx <| DC.seq <| Zs ?_
 refine Zf BF ?_
 refine Zl AO ?_
 refine Zc ?_
 refine Zm ?_
 refine Seq.split 9 rfl (fun k1_3 => ?_) (fun k1_3 => ?_)
 ·refine Zk ?_
  refine Zk ?_
  refine Zk ?_
  refine Zt ?_
  refine Zm ?_
  refine Zk ?_
  refine Zk ?_
  refine Zk ?_
  refine Zk ?_
  refine Zt ?_
  refine Zx ?_
  refine AM rfl ?_
  refine Zs ?_
  refine Za ?_
  refine Zx <| DC.ret <| Aa ?_
  refine Fin.weak (E' := [(2, _)]) ⟨rfl, trivial⟩ .nil ?_
  refine Aj (.inl rfl) rfl rfl ?_
  exact ⟨rfl, false, rfl, by simp; intro h; have := h.lo; simp at k1_3; omega⟩
 ·refine Zf BF ?_
  refine Zl AO ?_
  refine Zo (BH rfl rfl rfl) ?_
  refine Zg ?_
  refine Zm ?_
  refine Seq.split 14 rfl (fun k1_8 => ?_) (fun k1_8 => ?_)
  ·refine Zk ?_
   refine Zk ?_
   refine Zk ?_
   refine Zk ?_
   refine Zt ?_
   refine Zx ?_
   refine AM rfl ?_
   refine Zs ?_
   refine Za ?_
   refine Zx <| DC.ret <| Aa ?_
   refine Fin.weak (E' := [(2, _)]) ⟨rfl, trivial⟩ .nil ?_
   refine Aj (.inl rfl) rfl rfl ?_
   exact ⟨rfl, false, rfl, by simp; intro h; have := h.hi; simp at k1_8; omega⟩
  ·refine Zf Be ?_
   refine Zl BO ?_
   refine Zn Tryz.underlying22 ?_
   refine Zo (BH rfl rfl rfl) ?_
   refine Zg ?_
   refine Zx ?_
   refine Zd (fun c1 => ?_) fun c1 => ?_
   ·refine Zs ?_
    refine Za ?_
    refine Zx <| DC.ret <| Aa ?_
    refine Fin.weak (E' := [(2, _)]) ⟨rfl, trivial⟩ .nil ?_
    refine Aj (.inl rfl) rfl rfl ?_
    exact ⟨rfl, false, rfl, by simp; intro h; have := h.few; simp at c1; omega⟩
   ·refine DC.skip <| Fin.then <| DC.seq <| Zs ?_
    refine Za ?_
    refine Zx <| DC.block ?_
    refine DC.loop (ι := Nat) (fun i => i ≤ es.length ∧ (∀ (j : Nat) e, j < i → es[j]? = some e → OkE N e) ∧ (∀ (j : Nat) a b, j + 1 < i → es[j]? = some a → es[j + 1]? = some b → Lex a b))
     (fun i => [(1, .pointer (some ⟨g1, 0, none⟩)), (3, .int .i64 i)])
     (fun i => [blk g1 24 #[.int .i64 N, .slice A es.length cap]]) (fun i => es.length - i) 0 ⟨Nat.zero_le _, fun _ _ h => absurd h (Nat.not_lt_zero _), fun _ _ _ h => absurd h (Nat.not_lt_zero _)⟩
     ⟨rfl, rfl, trivial⟩ (.cons 0 rfl .nil) ?_
    rintro i ⟨hi, hok, hup⟩
    refine DC.seq <| Zs ?_
    refine Zm ?_
    refine Zf Be ?_
    refine Zl BO ?_
    refine Zn Tryz.underlying22 ?_
    refine Zc ?_
    refine Zx ?_
    refine Zd (fun c4 => ?_) fun c4 => ?_
    ·have hlt : i < es.length := by simpa using c4
     obtain ⟨e, he⟩ : ∃ e, es[i]? = some e := ⟨_, List.getElem?_eq_getElem hlt⟩
     obtain ⟨ad, rfl, hU, hV⟩ := hr.pair he
     refine DC.skip <| Fin.then <| DC.seq <| DC.block <| Zs ?_
     refine Zf Be ?_
     refine Zl BO ?_
     refine Zm ?_
     refine Zo (AQ (ad' := ad.add (i * 2)) rfl rfl rfl Tryz.underlying22 Bb (by omega) (by omega) rfl) ?_
     refine Zu (Ay (vs := [_, _]) rfl rfl CP Bb rfl (CD hU hV (by simp))) ?_
     refine Zw (AH rfl CI rfl) fun g4 => ?_
     refine Zy (AA (cs' := #[_, _]) rfl rfl rfl Bb rfl (Nat.le_of_ble_eq_true rfl) rfl) ?_
     refine Zx <| DC.seq <| Zs ?_
     refine Zf Bd ?_
     refine Zl AO ?_
     refine Zc ?_
     refine Zm ?_
     refine Seq.split 35 rfl (fun k7_3 => ?_) (fun k7_3 => ?_)
     ·refine Zk ?_
      refine Zk ?_
      refine Zk ?_
      refine Zk ?_
      refine Zk ?_
      refine Zt ?_
      refine Zm ?_
      refine Zk ?_
      refine Zk ?_
      refine Zk ?_
      refine Zk ?_
      refine Zk ?_
      refine Zt ?_
      refine Zx ?_
      refine AM rfl ?_
      refine Zs ?_
      refine Za ?_
      refine Zx <| DC.ret <| Aa <| Ae <| Aa <| Aa <| Ae <| Aa ?_
      refine Fin.weak (E' := [(2, _)]) ⟨rfl, trivial⟩ .nil ?_
      refine Aj (.inl rfl) rfl rfl ?_
      exact ⟨rfl, false, rfl, by simp; intro h; have := (h.ok i e he).lo; simp at k7_3; omega⟩
     ·refine Zf Bd ?_
      refine Zl AO ?_
      refine Zf Bu ?_
      refine Zl AO ?_
      refine Zo (Ck rfl rfl rfl) ?_
      refine Zg ?_
      refine Zm ?_
      refine Seq.split 42 rfl (fun k7_10 => ?_) (fun k7_10 => ?_)
      ·refine Zk ?_
       refine Zk ?_
       refine Zk ?_
       refine Zk ?_
       refine Zk ?_
       refine Zt ?_
       refine Zx ?_
       refine AM rfl ?_
       refine Zs ?_
       refine Za ?_
       refine Zx <| DC.ret <| Aa <| Ae <| Aa <| Aa <| Ae <| Aa ?_
       refine Fin.weak (E' := [(2, _)]) ⟨rfl, trivial⟩ .nil ?_
       refine Aj (.inl rfl) rfl rfl ?_
       exact ⟨rfl, false, rfl, by simp; intro h; have := (h.ok i e he).lt; simp at k7_10; omega⟩
      ·refine Zf Bu ?_
       refine Zl AO ?_
       refine Zf BF ?_
       refine Zl AO ?_
       refine Zo (Ck rfl rfl rfl) ?_
       refine Zg ?_
       refine Zx ?_
       refine Zd (fun c7 => ?_) fun c7 => ?_
       ·refine Zs ?_
        refine Za ?_
        refine Zx <| DC.ret <| Aa <| Ae <| Aa <| Aa <| Ae <| Aa ?_
        refine Fin.weak (E' := [(2, _)]) ⟨rfl, trivial⟩ .nil ?_
        refine Aj (.inl rfl) rfl rfl ?_
        exact ⟨rfl, false, rfl, by simp; intro h; have := (h.ok i e he).hi; simp at c7; omega⟩
       ·refine DC.skip <| Fin.then <| Zs ?_
        refine Zm ?_
        refine Zo (BH rfl rfl rfl) ?_
        refine Zx ?_
        refine Zd (fun c9 => ?_) fun c9 => ?_
        ·have hpos : 0 < i := by simpa using c9
         obtain ⟨d, hd⟩ : ∃ d, es[i - 1]? = some d := ⟨_, List.getElem?_eq_getElem (by omega)⟩
         obtain ⟨ad', h', hU', hV'⟩ := hr.pair hd
         cases h'
         have h2a : 0 ≤ e.1 := by simpa using k7_3
         have h2b : e.1 < e.2 := by simpa using k7_10
         have h2c : e.2 < N := by simpa using c7
         have hii : ((i : Int) - 1).toNat = i - 1 := by omega
         have fin : Lex d e → (∀ (j : Nat) x, j < i + 1 → es[j]? = some x → OkE N x) ∧ (∀ (j : Nat) a b, j + 1 < i + 1 → es[j]? = some a → es[j + 1]? = some b → Lex a b) := by
          intro hlex
          constructor
          ·intro j x hj hx
           rcases Nat.lt_succ_iff_lt_or_eq.1 hj with hj | rfl
           ·exact hok j x hj hx
           ·rw [he] at hx; cases hx; exact ⟨h2a, h2b, h2c⟩
          ·intro j a b hj ha hb
           rcases Nat.lt_succ_iff_lt_or_eq.1 hj with hj | hj
           ·exact hup j a b hj ha hb
           ·obtain rfl : j = i - 1 := by omega
            rw [hd] at ha; cases ha
            rw [show i - 1 + 1 = i by omega, he] at hb; cases hb
            exact hlex
         have bad : ¬ Lex d e → ¬ Vld N es := fun hn h => hn (h.up (i - 1) d e hd (by rw [show i - 1 + 1 = i by omega]; exact he))
         refine DC.seq ?_
         refine AG (cl := [.q, .v, .q, .q, .q, .v, .v, .r, .q]) (A := [0, 1, 0, 4, 15, 31, 0, 127, 255]) (order := [0, 1, 2, 3, 4, 5, 6, 7, 8]) [] mixed (by kernel_rfl) (fun w hw => hw.pick .nil) ?_
         refine Yf Be ?_
         refine Yl BO ?_
         refine Ym ?_
         refine Yo rfl (Ca rfl rfl rfl (by omega)) ?_
         refine Yo rfl (AQ (ad' := ad.add ((i - 1) * 2)) rfl rfl rfl Tryz.underlying22 Bb (by omega) (by omega) (by rw [hii])) ?_
         refine Am rfl rfl rfl rfl (Ay (vs := [_, _]) rfl rfl CP Bb rfl (CD hU' hV' (by simp))) ?_
         refine Am rfl rfl rfl rfl (Ay (vs := [_, _]) rfl rfl CP Bb rfl (Ak rfl)) ?_
         refine Flow.rel0 rfl rfl rfl rfl (Aq en35 rfl rfl rfl (fun w' hw => HX d.1 d.2 e.1 e.2 w')) ?_
         rintro _ ⟨lb, rfl, hlb⟩
         refine Yo rfl (Aw rfl rfl) ?_
         refine Flow.end rfl ?_
         simp only [zq, zr]
         refine Fin.then <| Zs ?_
         refine Zm ?_
         refine Zo (Bh rfl rfl) ?_
         refine Zx ?_
         refine Zd (fun c11 => ?_) fun c11 => ?_
         ·refine Zs ?_
          refine Za ?_
          refine Zx <| DC.ret <| Ae <| Aa <| Aa <| Ae <| Aa ?_
          refine Fin.weak (E' := [(2, _)]) ⟨rfl, trivial⟩ .nil ?_
          refine Aj (.inl rfl) rfl rfl ?_
          exact ⟨rfl, false, rfl, by simp; exact bad (fun h => by rw [hlb.2 h] at c11; simp at c11)⟩
         ·refine DC.skip <| Fin.inBlock <| Fin.then <| DC.region ?_
          refine Zm ?_
          refine Zp ?_
          refine Za ?_
          refine Seq.nil ?_
          obtain ⟨f1, f2⟩ := fin (hlb.1 (by simpa using c11))
          refine Fin.again (i + 1) (by omega) ⟨by omega, f1, f2⟩ ⟨rfl, rfl, trivial⟩ (.cons 1 rfl .nil)
        ·refine DC.skip <| Fin.inBlock <| Fin.then <| DC.region ?_
         refine Zm ?_
         refine Zp ?_
         refine Za ?_
         refine Seq.nil ?_
         have h0 : i = 0 := by simp at c9; omega
         subst h0
         have h2a : 0 ≤ e.1 := by simpa using k7_3
         have h2b : e.1 < e.2 := by simpa using k7_10
         have h2c : e.2 < N := by simpa using c7
         refine Fin.again 1 (by omega) ⟨by omega, ?_, ?_⟩ ⟨rfl, rfl, trivial⟩ (.cons 1 rfl .nil)
         ·intro j x hj hx
          obtain rfl : j = 0 := by omega
          rw [he] at hx; cases hx; exact ⟨h2a, h2b, h2c⟩
         ·intro j a b hj; omega
    ·refine DC.exit <| Ad <| Ad <| Ag <| Fin.then <| Zs ?_
     refine Za ?_
     refine Zx <| DC.ret ?_
     refine Fin.weak (E' := [(2, _)]) ⟨rfl, trivial⟩ .nil ?_
     refine Aj (.inl rfl) rfl rfl ?_
     have hie : i = es.length := by simp at c4; omega
     subst hie
     refine ⟨rfl, true, rfl, by simp; exact ⟨by simpa using k1_3, by simpa using k1_8, by simp at c1; omega, fun j e hj => hok j e (List.getElem?_eq_some_iff.1 hj).1 hj, fun j a b ha hb => hup j a b (List.getElem?_eq_some_iff.1 hb).1 ha hb⟩⟩
theorem HW {h : Int} {w : World} (h0 : 0 ≤ h) (h1 : h ≤ 1000000000) : Calls Tryz.prog 151 #[.int .i64 h] w (Ret w [] fun v L => L = [] ∧ v = .int .i64 (tw h)) := by
 refine At (args := [_]) (L := []) Tryz.func151 rfl Tryz.ntmps151 rfl (Own.start _ _) ?_
 refine Zs ?_
 refine Za ?_
 refine Zx <| DC.seq <| Zs ?_
 refine Zm ?_
 refine Zo (K8 rfl rfl rfl (by omega) (by omega)) ?_
 refine Zo (AX rfl rfl rfl) ?_
 refine Zx ?_
 refine Zd (fun c1 => ?_) fun c1 => ?_
 ·refine Zs ?_
  refine Zm ?_
  refine Zp ?_
  refine Za ?_
  refine Zx <| DC.ret <| Aa ?_
  refine Aj (.inl rfl) rfl rfl ?_
  exact ⟨rfl, by unfold tw; rw [if_pos (by simpa using c1)]⟩
 ·refine DC.skip <| Fin.then <| Zs ?_
  refine Zm ?_
  refine Zo (Ca rfl rfl rfl (by omega)) ?_
  refine Za ?_
  refine Zx <| DC.ret ?_
  refine Aj (.inl rfl) rfl rfl ?_
  exact ⟨rfl, by unfold tw; rw [if_neg (by simpa using c1)]⟩
structure CoI where
 i : Nat
 v : Value
theorem HY {N : Int} {es : List Pr} {va : Value} {w : World} (hg : PrV w va es) :
  Calls Tryz.prog 11 #[.agg #[.int .i64 N, va]] w (Ret w [] fun r L => ∃ A l c, r = .agg #[.int .i64 N, .slice A l c] ∧ L = [slc (.slice A l c) 43 2 (prs es)]) := by
 obtain ⟨A, cap, rfl, hr, hlc, hcm, hl⟩ := hg
 refine At (args := [_]) (L := []) Tryz.func11 rfl Tryz.ntmps11 rfl (Own.start _ _) ?_
 refine Zs ?_
 refine Zw (AS rfl rfl rfl) fun g1 => ?_
 refine Zw (AH rfl JY rfl) fun g2 => ?_
 refine Zx <| Zs ?_
 refine Za ?_
 refine Zx <| DC.seq <| Zs ?_
 refine Za ?_
 refine Zx <| DC.block ?_
 refine DC.own (fun w hw => Bm (t := 43) (m := 2) hw) ?_
 refine DC.loop (ι := CoI) (fun j => j.i ≤ es.length)
  (fun j => [(1, .pointer (some ⟨g1, 0, none⟩)), (2, .pointer (some ⟨g2, 0, none⟩)), (3, j.v), (4, .int .i64 j.i)])
  (fun j => slc j.v 43 2 (prs (es.take j.i)) :: [blk g2 24 #[.int .i64 0, .slice none 0 0], blk g1 24 #[.int .i64 N, .slice A es.length cap]]) (fun j => es.length - j.i) ⟨0, .slice none 0 0⟩ (Nat.zero_le _)
  ⟨rfl, rfl, rfl, rfl, trivial⟩ (.cons 0 rfl (Pick.all _)) ?_
 rintro ⟨i, v⟩ hi
 dsimp only at hi ⊢
 refine DC.seq <| Zs ?_
 refine Zm ?_
 refine Zf Be ?_
 refine Zl BO ?_
 refine Zn Tryz.underlying22 ?_
 refine Zc ?_
 refine Zx ?_
 refine Zd (fun c3 => ?_) fun c3 => ?_
 ·have hlt : i < es.length := by simpa using c3
  obtain ⟨e, he⟩ : ∃ e, es[i]? = some e := ⟨_, List.getElem?_eq_getElem hlt⟩
  obtain ⟨ad, rfl, hU, hVe⟩ := hr.pair he
  refine DC.skip <| Fin.then <| DC.seq <| DC.block <| DC.region ?_
  refine Zm ?_
  refine Zf Be ?_
  refine Zl BO ?_
  refine Zm ?_
  refine Zo (AQ (ad' := ad.add (i * 2)) rfl rfl rfl Tryz.underlying22 Bb (by omega) (by omega) rfl) ?_
  refine Zu (Ay (vs := [_, _]) rfl rfl CP Bb rfl (CD hU hVe (by simp))) ?_
  refine Zw (AP (cs := #[_, _]) rfl rfl Tryz.underlying22 Bb CI rfl (by decide) (by decide) rfl rfl) fun g18 => ?_
  refine Seq.gen rfl rfl (AR rfl rfl rfl Tryz.underlying22 Bb by43 CI rfl (by decide) (by decide) (F := [blk g2 24 #[.int .i64 0, .slice none 0 0], blk g1 24 #[.int .i64 N, .slice (some ad) es.length cap]]) (fun w hw => hw.pick (.cons 1 rfl (.cons 1 rfl (.cons 1 rfl .nil)))) (.inl ⟨_, _, rfl, Ak rfl⟩) rfl (FX [e]) (by simp; omega)) ?_
  rintro v19 _ rfl
  refine Za ?_
  refine Seq.nil <| Fin.inBlock <| Fin.then <| DC.region ?_
  refine Zm ?_
  refine Zp ?_
  refine Za ?_
  refine Seq.nil ?_
  refine Fin.again ⟨i + 1, v19⟩ (by dsimp only; omega) (by dsimp only; omega) ⟨rfl, rfl, rfl, rfl, trivial⟩ (.cons' 0 rfl (by dsimp only; rw [List.take_add_one, he, Dt]; rfl) (Pick.all _))
 ·refine DC.exit <| Ad <| Ad <| Ag <| Fin.then <| DC.seq ?_
  have hie : i = es.length := by simp at c3; omega
  subst hie
  rw [List.take_length]
  refine DC.shape (t := 43) (m := 2) (vs := prs es) 0 rfl ?_
  rintro ⟨Av, lv, cv, rfl⟩
  refine DC.region ?_
  refine Zf BF ?_
  refine Zl AO ?_
  refine Zm ?_
  refine Zo (AD (cs := #[_, _]) rfl rfl KN rfl rfl) ?_
  refine Zy (AA (cs' := #[_, _]) rfl rfl rfl Bc rfl (Nat.le_of_ble_eq_true rfl) rfl) ?_
  refine Zx <| DC.ret ?_
  refine BX (cs := #[_, _]) (.inl rfl) rfl rfl Bj Bc ?_
  exact ⟨[slc (.slice Av lv cv) 43 2 (prs es)], fun w hw => hw.pick (.cons 0 rfl .nil), _, _, _, rfl, rfl⟩
structure OwI where
 i : Nat
end Go.Fl

namespace Go.Fl
open Go Go.Proofs Go.Lib
section
variable {P : Program} {w0 w : World} {K : List Nat} {n : Nat} {ds : List Deferred} {E : Env} {L F : List Chunk} {o : Oper} {x y : Operand}
theorem p_cap {t : Nat} {ad : Option Addr} {len cap : Nat} {e : Nat} (ho : o.op = .call ⟨.builtin .cap, #[x], #[t]⟩) (hx : ev n E x = some (.slice ad len cap)) (ht : P.underlying t = some (.slice e)) :
  Pur P n ds E o (.int .i64 cap) := by
 intro a w ha
 simp [execOp, ho, resolve, ha.ev hx, invoke, builtin, Builtin.cap_, run_underlying ht, goInt]
/-- append(nil, make(.., k)...). -/
theorem LW {t tn e b k : Nat} {kn : IntKind} {zv : Value} (ho : o.op = .call ⟨.builtin .append, #[x, y], #[t, tn]⟩) (hx : ev n E x = some (.slice none 0 0)) (hy : ev n E y = some (.int .i64 (k : Nat)))
  (ht : P.underlying t = some (.slice e)) (htn : P.underlying tn = some (.int kn)) (hm : sizeT P e = some 1) (hb : bytesT P e = some b) (hz : zeroT P e = some zv) (hzs : zv.cells.size = 1) (hb0 : 0 < b) (hk0 : 0 < k)
  (hfit : k * b ≤ 140737488355328) : Rel P w0 K n ds E L o (fun v' M => ∃ g cap cs, v' = .slice (some ⟨g, 0, none⟩) k cap ∧ k ≤ cap ∧ cap ≤ 9223372036854775807 ∧ cs.size = cap ∧ M = [blk g e cs]) := by
 intro a w ha hw
 obtain ⟨i, hi, e1, e2, e3⟩ := EX hm hb hz
 subst e2
 have hkb : k ≤ k * i.bytes := Nat.le_mul_of_pos_right _ hb0
 have hr := run_append_grow_zeros (P := P) w t tn o.type e i zv .i64 kn ht htn hi e3 none 0 0 [] (by simp [Builtin.firstCells]) k hk0 (by omega) (by omega) (by omega) (by omega) (growslice_fits (by omega) (by rw [Nat.zero_add]; exact hfit))
 have hrun : ∀ v' w1, (Builtin.append_ #[t, tn] o.type #[.slice none 0 0, .int .i64 (k : Nat)]).run P w = .ok v' w1 → (execOp a.eval o).run P w = .ok (.value v') w1 := fun v' w1 hr => by
  simp [execOp, ho, resolve, ha.ev hx, ha.ev hy, invoke, builtin, hr]
 unfold RunsTo
 rw [hrun _ _ hr]
 have h5 := grownCap_ge w (0 + k) 0 e
 have h6 := grownCap_le_maxLen w (0 + k) 0 e (by simp only [maxLen]; omega)
 simp only [maxLen] at h6
 refine ⟨_, ⟨w.heap.size, grownCap w (0 + k) 0 e, _, by rw [Nat.zero_add], by omega, by omega, ?_, rfl⟩, (Own.start w []).drew.alloc e _⟩
 simp only [Array.size_append, size_zeroCells, hzs, List.size_toArray, List.length_nil]
 omega
end
theorem add_add' (ad : Addr) (i j : Nat) : (ad.add i).add j = ad.add (i + j) := by
 cases j with
 | zero => simp [Addr.add]
 | succ j => exact DK _ _ _ (by omega)
theorem slv_drop {w : World} {l : List Int} {A : Option Addr} {len c k : Nat} (h : SlV w (.slice A len c) l) (hk : k ≤ l.length) : SlV w (.slice (if c = k then A else A.map (·.add (k * 1))) (len - k) (c - k)) (l.drop k) := by
 obtain ⟨A', cap, e, hr, h1, h2, h3⟩ := h
 cases e
 by_cases hl : k = l.length
 ·subst hl
  rw [List.drop_length]
  exact ⟨_, _, by simp; exact ⟨rfl, rfl⟩, fun j u hu => by simp at hu, by simp, by omega, by simp⟩
 ·rw [if_neg (by omega)]
  refine ⟨_, _, by rw [List.length_drop], fun j u hu => ?_, by rw [List.length_drop]; omega, by omega, by rw [List.length_drop]; omega⟩
  have hu' : (ints l)[k + j]? = some u := by
   unfold ints at hu ⊢
   rw [List.map_drop, List.getElem?_drop] at hu; exact hu
  obtain ⟨ad, e, hc⟩ := hr _ _ hu'
  cases e
  exact ⟨_, rfl, by rw [add_add', Nat.mul_one]; exact hc⟩
theorem slv_take {w : World} {l : List Int} {A : Option Addr} {len c k : Nat} (h : SlV w (.slice A len c) l) (hk : k ≤ l.length) : SlV w (.slice A k c) (l.take k) := by
 obtain ⟨A', cap, e, hr, h1, h2, h3⟩ := h
 cases e
 refine ⟨_, _, by rw [List.length_take, Nat.min_eq_left hk], fun j u hu => hr j u ?_, by rw [List.length_take]; omega, h2, by rw [List.length_take]; omega⟩
 unfold ints at hu ⊢
 rw [List.map_take, List.getElem?_take] at hu
 split at hu
 ·exact hu
 ·cases hu
theorem lsv_two {w0 w : World} {K : List Nat} {F : List Chunk} {g t : Nat} {a b : List Int} {v1 v2 : Value} (hw : Own w0 K w (blk g t #[v1, v2] :: F)) (h1 : SlV w v1 a) (h2 : SlV w v2 b) : LsV w (.slice (some ⟨g, 0, none⟩) 2 2) [a, b] := by
 refine ⟨_, _, rfl, fun i l hi => ?_, by simp, by omega, by simp⟩
 have hg := hw.holds _ (List.mem_cons_self ..)
 match i with
 | 0 => cases hi; exact ⟨_, v1, rfl, by rw [AC, cell_of_row w g _ _ t (0, 0) hg]; rfl, h1⟩
 | 1 => cases hi; exact ⟨_, v2, rfl, by rw [AC, cell_of_row w g _ _ t (0, 0) hg]; rfl, h2⟩
 | i + 2 => simp at hi
structure F3I where
 i : Nat
 k : Nat
structure F3V where
 i : Nat
 v : Value
theorem Jl {l : List Int} {v : Value} {w : World} (hl : SlV w v l) :
  Calls Tryz.prog 90 #[v] w (Ret w [] fun r M => M = [] ∧ ∃ k : Nat, r = .int .i64 k ∧ (k ≤ l.length ∧ (0 < l.length → k < l.length)) ∧ ∀ a x, l[k]? = some a → x ∈ l → a ≤ x) := by
 obtain ⟨A, cap, rfl, hr, hlc, hcm, hle⟩ := hl
 refine At (K := []) (args := [_]) (L := []) Tryz.func90 rfl Tryz.ntmps90 rfl (Own.start _ _) ?_
 refine DC.seq <| DC.region ?_
 refine Seq.pur rfl rfl (Aw rfl rfl) ?_
 refine Seq.nil <| Fin.then <| DC.seq <| DC.region ?_
 refine Seq.pur rfl rfl (Aw rfl rfl) ?_
 refine Seq.nil <| Fin.then <| DC.seq <| DC.seq <| DC.region ?_
 refine Seq.pur rfl rfl (Az rfl rfl) ?_
 refine Seq.pur rfl rfl (BM rfl rfl Tryz.underlying44) ?_
 refine Seq.pur rfl rfl (Az rfl rfl) ?_
 refine Seq.nil <| Fin.then <| DC.block ?_
 refine DC.loop (ι := F3I) (fun q => q.i ≤ l.length ∧ (q.k = 0 ∨ q.k < q.i) ∧ ∀ (j : Nat) a x, j < q.i → l[q.k]? = some a → l[j]? = some x → a ≤ x) (fun q => [(0, .slice A l.length cap), (3, .int .i64 (q.k : Nat)), (6, .slice A l.length cap), (7, .int .i64 l.length), (8, .int .i64 (q.i : Nat))]) (fun _ => []) (fun q => l.length - q.i) ⟨0, 0⟩ ⟨Nat.zero_le _, .inl rfl, fun j _ _ h => absurd h (Nat.not_lt_zero _)⟩ ⟨rfl, rfl, rfl, rfl, rfl, trivial⟩ .nil ?_
 rintro ⟨i, k⟩ ⟨hi, hk, hall⟩
 dsimp only at hi hk hall ⊢
 refine DC.seq <| DC.region ?_
 refine Seq.pur rfl rfl (Cj rfl rfl rfl) ?_
 refine Seq.nil <| Fin.then <| DC.seq ?_
 refine DC.cond rfl (fun c3 => ?_) (fun c3 => ?_)
 ·have hlt : i < l.length := by simpa using c3
  obtain ⟨x, hx⟩ : ∃ x, l[i]? = some x := ⟨_, List.getElem?_eq_getElem hlt⟩
  obtain ⟨a, ha⟩ : ∃ x, l[k]? = some x := ⟨_, List.getElem?_eq_getElem (by omega)⟩
  obtain ⟨ad, rfl, cx⟩ := hr.int hx
  obtain ⟨ad', e', ca⟩ := hr.int ha
  cases e'
  refine DC.skip <| Fin.then <| DC.seq <| DC.block <| DC.seq <| DC.region ?_
  refine Seq.pur rfl rfl (Az rfl rfl) ?_
  refine Seq.pur rfl rfl (Ai (ad' := ad.add i) rfl rfl rfl Tryz.underlying44 AN (by omega) (by omega) (by rw [Int.toNat_natCast])) ?_
  refine Seq.val rfl rfl (Ah rfl rfl AO (AE cx)) ?_
  refine Seq.pur rfl rfl (Aw rfl rfl) ?_
  refine Seq.pur rfl rfl (Aw rfl rfl) ?_
  refine Seq.nil <| Fin.then <| DC.seq <| DC.region ?_
  refine Seq.pur rfl rfl (Az rfl rfl) ?_
  refine Seq.pur rfl rfl (Az rfl rfl) ?_
  refine Seq.pur rfl rfl (Az rfl rfl) ?_
  refine Seq.pur rfl rfl (Ai (ad' := ad.add k) rfl rfl rfl Tryz.underlying44 AN (by omega) (by omega) (by rw [Int.toNat_natCast])) ?_
  refine Seq.val rfl rfl (Ah rfl rfl AO (AE ca)) ?_
  refine Seq.pur rfl rfl (Cj rfl rfl rfl) ?_
  refine Seq.nil <| Fin.then ?_
  refine DC.cond rfl (fun c5 => ?_) (fun c5 => ?_)
  ·refine DC.region ?_
   refine Seq.pur rfl rfl (Az rfl rfl) ?_
   refine Seq.pur rfl rfl (Aw rfl rfl) ?_
   refine Seq.nil <| Fin.inBlock <| Fin.then <| DC.region ?_
   refine Seq.pur rfl rfl (BN rfl rfl rfl (by omega)) ?_
   refine Seq.pur rfl rfl (Az rfl rfl) ?_
   refine Seq.nil ?_
   first
   | (have hxa : x < a := by simpa using c5
      refine Fin.again ⟨i + 1, i⟩ (by dsimp only; omega) ⟨by dsimp only; omega, by dsimp only; omega, fun j a' y hj ha' hy => ?_⟩ ⟨rfl, rfl, rfl, rfl, rfl, trivial⟩ .nil
      dsimp only at hj ha'
      rw [hx] at ha'; cases ha'
      rcases Nat.lt_or_ge j i with h | h
      ·have := hall j a y h ha hy; omega
      ·obtain rfl : j = i := by omega
       rw [hx] at hy; cases hy; exact Int.le_refl _)
   | (have hxa : a ≤ x := by simp at c5; omega
      refine Fin.again ⟨i + 1, k⟩ (by dsimp only; omega) ⟨by dsimp only; omega, by dsimp only; omega, fun j a' y hj ha' hy => ?_⟩ ⟨rfl, rfl, rfl, rfl, rfl, trivial⟩ .nil
      dsimp only at hj ha'
      rw [ha] at ha'; cases ha'
      rcases Nat.lt_or_ge j i with h | h
      ·exact hall j a y h ha hy
      ·obtain rfl : j = i := by omega
       rw [hx] at hy; cases hy; exact hxa)
  ·refine DC.skip <| Fin.inBlock <| Fin.then <| DC.region ?_
   refine Seq.pur rfl rfl (BN rfl rfl rfl (by omega)) ?_
   refine Seq.pur rfl rfl (Az rfl rfl) ?_
   refine Seq.nil ?_
   first
   | (have hxa : x < a := by simpa using c5
      refine Fin.again ⟨i + 1, i⟩ (by dsimp only; omega) ⟨by dsimp only; omega, by dsimp only; omega, fun j a' y hj ha' hy => ?_⟩ ⟨rfl, rfl, rfl, rfl, rfl, trivial⟩ .nil
      dsimp only at hj ha'
      rw [hx] at ha'; cases ha'
      rcases Nat.lt_or_ge j i with h | h
      ·have := hall j a y h ha hy; omega
      ·obtain rfl : j = i := by omega
       rw [hx] at hy; cases hy; exact Int.le_refl _)
   | (have hxa : a ≤ x := by simp at c5; omega
      refine Fin.again ⟨i + 1, k⟩ (by dsimp only; omega) ⟨by dsimp only; omega, by dsimp only; omega, fun j a' y hj ha' hy => ?_⟩ ⟨rfl, rfl, rfl, rfl, rfl, trivial⟩ .nil
      dsimp only at hj ha'
      rw [ha] at ha'; cases ha'
      rcases Nat.lt_or_ge j i with h | h
      ·exact hall j a y h ha hy
      ·obtain rfl : j = i := by omega
       rw [hx] at hy; cases hy; exact hxa)
 ·refine DC.exit <| Ad <| Ad <| Ag <| Fin.then <| DC.seq <| DC.region ?_
  refine Seq.pur rfl rfl (Az rfl rfl) ?_
  refine Seq.pur rfl rfl (Aw rfl rfl) ?_
  refine Seq.nil <| Fin.then <| DC.ret ?_
  have hie : i = l.length := by simp at c3; omega
  refine Fin.weak (E' := [(2, _)]) (L' := []) ⟨rfl, trivial⟩ .nil ?_
  refine Aj (.inl rfl) rfl rfl ?_
  refine ⟨rfl, k, rfl, ⟨by omega, fun _ => by omega⟩, fun a x ha hx => ?_⟩
  obtain ⟨j, hj⟩ := List.mem_iff_getElem?.1 hx
  exact hall j a x (by rw [hie]; exact (List.getElem?_eq_some_iff.1 hj).1) ha hj
theorem Ky {k : Nat} {w : World} (hk : k ≤ 1000000000) :
  Calls Tryz.prog 149 #[.slice none 0 0, .int .i64 k] w (Ret w [] fun r M => M = [slc r 3 1 (ints [])]) := by
 refine At (K := []) (args := [_, _]) (L := []) Tryz.func149 rfl Tryz.ntmps149 rfl (Own.start _ _) ?_
 refine DC.seq <| DC.region ?_
 refine Seq.pur rfl rfl (Aw rfl rfl) ?_
 refine Seq.nil <| Fin.then <| DC.seq <| DC.seq <| DC.region ?_
 refine Seq.pur rfl rfl (Az rfl rfl) ?_
 refine Seq.pur rfl rfl (Cj rfl rfl rfl) ?_
 refine Seq.nil <| Fin.then ?_
 refine DC.cond rfl (fun c1 => ?_) (fun c1 => ?_)
 ·simp at c1; omega
 ·refine DC.skip <| Fin.then <| DC.seq <| DC.seq <| DC.region ?_
  refine Seq.pur rfl rfl (Az rfl rfl) ?_
  refine Seq.pur rfl rfl (Az rfl rfl) ?_
  refine Seq.pur rfl rfl (p_cap rfl rfl Tryz.underlying44) ?_
  refine Seq.pur rfl rfl (Az rfl rfl) ?_
  refine Seq.pur rfl rfl (BM rfl rfl Tryz.underlying44) ?_
  refine Seq.pur rfl rfl (Ca rfl rfl rfl (by omega)) ?_
  refine Seq.pur rfl rfl (Ca rfl rfl rfl (by omega)) ?_
  refine Seq.pur rfl rfl (Aw rfl rfl) ?_
  refine Seq.nil <| Fin.then <| DC.seq <| DC.region ?_
  refine Seq.pur rfl rfl (Az rfl rfl) ?_
  refine Seq.pur rfl rfl (BH rfl rfl rfl) ?_
  refine Seq.nil <| Fin.then ?_
  refine DC.cond rfl (fun c4 => ?_) (fun c4 => ?_)
  ·have hk0 : 0 < k := by simp at c4; omega
   refine DC.region ?_
   refine Seq.pur rfl rfl (Az rfl rfl) ?_
   refine Seq.pur rfl rfl (Az rfl rfl) ?_
   refine Seq.pur rfl rfl (p_cap rfl rfl Tryz.underlying44) ?_
   refine Seq.pur rfl rfl (CT (hi := 0) rfl rfl rfl Tryz.underlying44 AN (Nat.le_refl _)) ?_
   refine Seq.pur rfl rfl (Az rfl rfl) ?_
   refine Seq.rel rfl rfl (LW (k := k) rfl rfl (by simp [ev, Env.get]; rfl) Tryz.underlying44 Tryz.underlying3 AN DP B6 rfl (by decide) hk0 (by omega)) ?_
   rintro _ _ ⟨g, cap, cs, rfl, h1, h2, h3, rfl⟩
   refine Seq.pur rfl rfl (Az rfl rfl) ?_
   refine Seq.pur rfl rfl (BM rfl rfl Tryz.underlying44) ?_
   refine Seq.pur rfl rfl (CT (hi := 0) rfl rfl rfl Tryz.underlying44 AN (Nat.zero_le _)) ?_
   refine Seq.pur rfl rfl (Aw rfl rfl) ?_
   refine Seq.nil ?_
   refine Fin.own (M := [slc (.slice (some ⟨g, 0, none⟩) 0 cap) 3 1 (ints [])]) (fun w hw => B7 (len := 0) rfl (by decide) (Nat.zero_le _) h2 (by rw [h3, Nat.mul_one]) (by simp [ints]) hw) ?_
   refine Fin.then <| DC.seq <| DC.region ?_
   refine Seq.pur rfl rfl (Az rfl rfl) ?_
   refine Seq.pur rfl rfl (Aw rfl rfl) ?_
   refine Seq.nil <| Fin.then <| DC.ret ?_
   refine Fin.weak (E' := [(4, _)]) ⟨rfl, trivial⟩ (.cons 0 rfl .nil) ?_
   refine Aj (.inl rfl) rfl rfl ?_
   rfl
  ·refine DC.own (fun w hw => Bm (t := 3) (m := 1) hw) ?_
   refine DC.skip <| Fin.then <| DC.seq <| DC.region ?_
   refine Seq.pur rfl rfl (Az rfl rfl) ?_
   refine Seq.pur rfl rfl (Aw rfl rfl) ?_
   refine Seq.nil <| Fin.then <| DC.ret ?_
   refine Fin.weak (E' := [(4, _)]) ⟨rfl, trivial⟩ (.cons 0 rfl .nil) ?_
   refine Aj (.inl rfl) rfl rfl ?_
   rfl
end Go.Fl

namespace Go.Fl
open Go Go.Proofs
theorem Hz {ls : List (List Int)} {i : Nat} {l : List Int} (h : ls[i]? = some l) : (ls.take (i + 1)).flatten = (ls.take i).flatten ++ l := by
 rw [List.take_add_one, h]; simp
theorem Lv (ls : List (List Int)) (i : Nat) : (ls.take i).flatten.length ≤ ls.flatten.length := by
 have : ls.flatten = (ls.take i).flatten ++ (ls.drop i).flatten := by rw [← List.flatten_append, List.take_append_drop]
 rw [this, List.length_append]; omega
theorem Ir {ls : List (List Int)} {v : Value} {w : World} (hl : LsV w v ls) (hn : ls.length ≤ 1000000000) (hb : ls.flatten.length ≤ 1000000000) :
  Calls Tryz.prog 115 #[v] w (Ret w [] fun r M => M = [slc r 3 1 (ints ls.flatten)]) := by
 obtain ⟨B, capb, rfl, hrb, hlb, hcb, hleb⟩ := hl
 refine At (K := []) (args := [_]) (L := []) Tryz.func115 rfl Tryz.ntmps115 rfl (Own.start _ _) ?_
 refine DC.seq <| DC.region ?_
 refine Seq.pur rfl rfl (Aw rfl rfl) ?_
 refine Seq.nil <| Fin.then <| DC.seq <| DC.region ?_
 refine Seq.pur rfl rfl (Aw rfl rfl) ?_
 refine Seq.nil <| Fin.then <| DC.seq <| DC.seq <| DC.region ?_
 refine Seq.pur rfl rfl (Az rfl rfl) ?_
 refine Seq.pur rfl rfl (BM rfl rfl Tryz.underlying25) ?_
 refine Seq.pur rfl rfl (Az rfl rfl) ?_
 refine Seq.nil <| Fin.then <| DC.block ?_
 refine DC.loop (ι := OwI) (fun q => q.i ≤ ls.length) (fun q => [(0, .slice B ls.length capb), (3, .int .i64 ((ls.take q.i).flatten.length : Nat)), (9, .slice B ls.length capb), (10, .int .i64 ls.length), (11, .int .i64 (q.i : Nat))]) (fun _ => []) (fun q => ls.length - q.i) ⟨0⟩ (Nat.zero_le _) ⟨rfl, rfl, rfl, rfl, rfl, trivial⟩ .nil ?_
 rintro ⟨i⟩ hi
 dsimp only at hi ⊢
 refine DC.seq <| DC.region ?_
 refine Seq.pur rfl rfl (Cj rfl rfl rfl) ?_
 refine Seq.nil <| Fin.then <| DC.seq ?_
 refine DC.cond rfl (fun c3 => ?_) (fun c3 => ?_)
 ·have hlt : i < ls.length := by simpa using c3
  obtain ⟨l, hl⟩ : ∃ x, ls[i]? = some x := ⟨_, List.getElem?_eq_getElem hlt⟩
  obtain ⟨ad, lv, rfl, hc, hsl⟩ := hrb i l hl
  obtain ⟨Ax, cx, rfl, _⟩ := hsl
  have hf := Hz hl
  have hf1 := Lv ls (i + 1)
  have hf2 := congrArg List.length hf
  rw [List.length_append] at hf2
  refine DC.skip <| Fin.then <| DC.seq <| DC.block <| DC.seq <| DC.region ?_
  refine Seq.pur rfl rfl (Ai (ad' := ad.add i) rfl rfl rfl Tryz.underlying25 Bn (by omega) (by omega) (by rw [Int.toNat_natCast])) ?_
  refine Seq.val rfl rfl (Ah rfl rfl Bo (AE hc)) ?_
  refine Seq.pur rfl rfl (Aw rfl rfl) ?_
  refine Seq.nil <| Fin.then <| DC.seq <| DC.region ?_
  refine Seq.pur rfl rfl (Az rfl rfl) ?_
  refine Seq.pur rfl rfl (Az rfl rfl) ?_
  refine Seq.pur rfl rfl (BM rfl rfl Tryz.underlying44) ?_
  refine Seq.pur rfl rfl (BN rfl rfl rfl (by omega)) ?_
  refine Seq.pur rfl rfl (Aw rfl rfl) ?_
  refine Seq.nil <| Fin.then <| DC.seq <| DC.region ?_
  refine Seq.pur rfl rfl (Az rfl rfl) ?_
  refine Seq.pur rfl rfl (Cj rfl rfl rfl) ?_
  refine Seq.nil <| Fin.then ?_
  refine DC.cond rfl (fun c6 => ?_) (fun c6 => ?_)
  ·simp at c6; omega
  ·refine DC.skip <| Fin.inBlock <| Fin.then <| DC.region ?_
   refine Seq.pur rfl rfl (BN rfl rfl rfl (by omega)) ?_
   refine Seq.pur rfl rfl (Az rfl rfl) ?_
   refine Seq.nil ?_
   refine Fin.again ⟨i + 1⟩ (by dsimp only; omega) (by dsimp only; omega) ⟨rfl, ?_, rfl, rfl, rfl, trivial⟩ .nil
   dsimp only; rw [hf2]; rfl
 ·refine DC.exit <| Ad <| Ad <| Ag <| Fin.then <| DC.seq ?_
  have hie : i = ls.length := by simp at c3; omega
  subst hie
  rw [List.take_length]
  refine DC.region ?_
  refine Seq.pur rfl rfl (Az rfl rfl) ?_
  refine Seq.rel rfl rfl (Aq en149 rfl rfl rfl (fun w hw => Ky (by omega))) ?_
  rintro v24 _ rfl
  refine Seq.pur rfl rfl (Aw rfl rfl) ?_
  refine Seq.nil <| Fin.then <| DC.seq <| DC.seq <| DC.region ?_
  refine Seq.pur rfl rfl (Az rfl rfl) ?_
  refine Seq.pur rfl rfl (BM rfl rfl Tryz.underlying25) ?_
  refine Seq.pur rfl rfl (Az rfl rfl) ?_
  refine Seq.nil <| Fin.then <| DC.block ?_
  refine DC.loop (ι := F3V) (fun q => q.i ≤ ls.length) (fun q => [(6, q.v), (25, .slice B ls.length capb), (26, .int .i64 ls.length), (27, .int .i64 (q.i : Nat))]) (fun q => [slc q.v 3 1 (ints (ls.take q.i).flatten)]) (fun q => ls.length - q.i) ⟨0, v24⟩ (Nat.zero_le _) ⟨rfl, rfl, rfl, rfl, trivial⟩ (.cons 0 rfl .nil) ?_
  rintro ⟨i, v6⟩ hi
  dsimp only at hi ⊢
  refine DC.seq <| DC.region ?_
  refine Seq.pur rfl rfl (Cj rfl rfl rfl) ?_
  refine Seq.nil <| Fin.then <| DC.seq ?_
  refine DC.cond rfl (fun c11 => ?_) (fun c11 => ?_)
  ·have hlt : i < ls.length := by simpa using c11
   obtain ⟨l, hl⟩ : ∃ x, ls[i]? = some x := ⟨_, List.getElem?_eq_getElem hlt⟩
   obtain ⟨ad, lv, rfl, hc, hsl⟩ := hrb i l hl
   have hf := Hz hl
   have hf1 := Lv ls (i + 1)
   have hf2 := congrArg List.length hf
   rw [List.length_append] at hf2
   refine DC.skip <| Fin.then <| DC.seq <| DC.block <| DC.seq <| DC.region ?_
   refine Seq.pur rfl rfl (Ai (ad' := ad.add i) rfl rfl rfl Tryz.underlying25 Bn (by omega) (by omega) (by rw [Int.toNat_natCast])) ?_
   refine Seq.val rfl rfl (Ah rfl rfl Bo (AE hc)) ?_
   refine Seq.pur rfl rfl (Aw rfl rfl) ?_
   refine Seq.nil <| Fin.then <| DC.region ?_
   refine Seq.pur rfl rfl (Az rfl rfl) ?_
   refine Seq.pur rfl rfl (Az rfl rfl) ?_
   refine Seq.gen rfl rfl (AR (F := []) (vs := ints (ls.take i).flatten) (k := l.length) (news := ints l) rfl rfl rfl Tryz.underlying44 AN DP B6 rfl (by decide) (by decide)
    (fun w hw => hw) (SlV.src2 (w := w) hsl) (by simp) (Br _ []) (by rw [ints_length]; omega)) ?_
   rintro v33 _ rfl
   refine Seq.pur rfl rfl (Aw rfl rfl) ?_
   refine Seq.nil <| Fin.inBlock <| Fin.then <| DC.region ?_
   refine Seq.pur rfl rfl (BN rfl rfl rfl (by omega)) ?_
   refine Seq.pur rfl rfl (Az rfl rfl) ?_
   refine Seq.nil ?_
   exact Fin.again ⟨i + 1, v33⟩ (by dsimp only; omega) (by dsimp only; omega) ⟨rfl, rfl, rfl, rfl, trivial⟩ (.cons' 0 rfl (by dsimp only; rw [hf, A4]) .nil)
  ·refine DC.exit <| Ad <| Ad <| Ag <| Fin.then <| DC.seq <| DC.region ?_
   refine Seq.pur rfl rfl (Az rfl rfl) ?_
   refine Seq.pur rfl rfl (Aw rfl rfl) ?_
   refine Seq.nil <| Fin.then <| DC.ret ?_
   have hie2 : i = ls.length := by simp at c11; omega
   subst hie2
   rw [List.take_length]
   refine Fin.weak (E' := [(2, _)]) ⟨rfl, trivial⟩ (.cons 0 rfl .nil) ?_
   refine Aj (.inl rfl) rfl rfl ?_
   rfl
theorem HM {l : List Int} {k : Nat} {v : Value} {w : World} (hl : SlV w v l) (hk : k ≤ l.length) (hn : l.length ≤ 1000000000) :
  Calls Tryz.prog 89 #[v, .int .i64 k] w (Ret w [] fun r M => M = [slc r 3 1 (ints (tuR l k))]) := by
 have hl0 := hl
 obtain ⟨A, cap, rfl, hr, hlc, hcm, hle⟩ := hl
 refine At (K := []) (args := [_, _]) (L := []) Tryz.func89 rfl Tryz.ntmps89 rfl (Own.start _ _) ?_
 have hfl : [l.drop k, l.take k].flatten = tuR l k := by simp [tuR]
 refine DC.seq <| DC.region ?_
 refine Seq.pur rfl rfl (Aw rfl rfl) ?_
 refine Seq.nil <| Fin.then <| DC.seq ?_
 refine AG (cl := [.q, .q, .q, .q, .q, .q, .n, .r, .q]) (A := [0, 0, 3, 0, 0, 24, 63, 127, 255]) (order := [0, 1, 2, 3, 4, 5, 6, 7, 8]) [] mixed (by kernel_rfl) (fun w hw => hw.pick .nil) ?_
 refine Flow.pur rfl rfl rfl (Az rfl rfl) ?_
 refine Flow.pur rfl rfl rfl (Az rfl rfl) ?_
 refine Flow.pur rfl rfl rfl (CK (lo := k) rfl rfl rfl Tryz.underlying44 AN hk) ?_
 refine Flow.pur rfl rfl rfl (Az rfl rfl) ?_
 refine Flow.pur rfl rfl rfl (Az rfl rfl) ?_
 refine Flow.pur rfl rfl rfl (CT (hi := k) rfl rfl rfl Tryz.underlying44 AN (by omega)) ?_
 refine AY rfl rfl rfl rfl (AP (cs := #[_, _]) rfl rfl Tryz.underlying25 Bn CH rfl (by decide) (by decide) rfl rfl) fun g11 => ?_
 refine Ct (V := [blk g11 44 #[_, _]]) rfl rfl rfl rfl (by kernel_rfl) (Aq en115 rfl rfl rfl (fun w hw => Ir (lsv_two hw ((slv_drop hl0 hk).keep0 hw) ((slv_take hl0 hk).keep0 hw)) (by simp) (by rw [hfl, Ez]; exact hn))) ?_
 rintro v12 _ rfl
 refine Flow.pur rfl rfl rfl (Aw rfl rfl) ?_
 refine Flow.end rfl ?_
 simp only [List.map_cons, List.map_nil, List.nil_append, List.cons_append, List.append_nil]
 refine Fin.then <| DC.ret ?_
 refine Fin.weak (E' := [(4, v12)]) (L' := [slc v12 3 1 (ints (tuR l k))]) ⟨rfl, trivial⟩ (.cons' 0 rfl (by rw [hfl]) .nil) ?_
 refine Aj (.inl rfl) rfl rfl ?_
 rfl
structure CnI where
 i : Nat
 rs : RL
theorem IU {rs : RL} {m : Nat} {v : Value} {l : List Int} : (rowsV rs ++ List.replicate (m + 1) (Value.slice none 0 0)).toArray.setIfInBounds rs.length v = (rowsV (rs ++ [(v, l)]) ++ List.replicate m (Value.slice none 0 0)).toArray := by
 apply Array.ext'
 rw [Array.toList_setIfInBounds, List.set_append_right _ _ (by simp [rowsV])]
 simp [rowsV, List.replicate_succ]
theorem EB (rs : RL) : (rowsV rs ++ List.replicate 0 (Value.slice none 0 0)).toArray = (rowsV rs).toArray := by simp
theorem FO {rs : List (List Int)} {v : Value} {w : World} (hl : LsV w v rs) (hn : rs.length ≤ 1000000000) (hs : ∀ l, l ∈ rs → l.length ≤ 1000000000) :
  Calls Tryz.prog 50 #[v] w (Ret w [] fun r M => ∃ g ms, r = .slice (some ⟨g, 0, none⟩) rs.length rs.length ∧ M = blk g 44 (rowsV ms).toArray :: rowsC 3 ms ∧ RowsR TurnR rs (ms.map Prod.snd)) := by
 obtain ⟨B, capb, rfl, hrb, hlb, hcb, hleb⟩ := hl
 refine At (K := []) (args := [_]) (L := []) Tryz.func50 rfl Tryz.ntmps50 rfl (Own.start _ _) ?_
 refine DC.seq <| DC.region ?_
 refine Seq.pur rfl rfl (Aw rfl rfl) ?_
 refine Seq.nil <| Fin.then <| DC.seq <| DC.region ?_
 refine Seq.pur rfl rfl (Az rfl rfl) ?_
 refine Seq.pur rfl rfl (BM rfl rfl Tryz.underlying59) ?_
 refine Seq.new rfl rfl (BI (k := rs.length) (cs := (rowsV [] ++ List.replicate rs.length (Value.slice none 0 0)).toArray) rfl rfl rfl Tryz.underlying59 Bn GT CH rfl (by omega) (by omega) (by rw [CV _ rfl]; simp [rowsV])) fun g8 => ?_
 refine Seq.pur rfl rfl (Aw rfl rfl) ?_
 refine Seq.nil <| Fin.then <| DC.seq <| DC.seq <| DC.region ?_
 refine Seq.pur rfl rfl (Az rfl rfl) ?_
 refine Seq.pur rfl rfl (BM rfl rfl Tryz.underlying59) ?_
 refine Seq.pur rfl rfl (Az rfl rfl) ?_
 refine Seq.nil <| Fin.then <| DC.block ?_
 refine DC.loop (ι := CnI) (fun q => q.i ≤ rs.length ∧ q.rs.length = q.i ∧ ∀ (j : Nat) l m, j < q.i → rs[j]? = some l → (q.rs.map Prod.snd)[j]? = some m → TurnR l m) (fun q => [(3, .slice (some ⟨g8, 0, none⟩) rs.length rs.length), (9, .slice B rs.length capb), (10, .int .i64 rs.length), (11, .int .i64 (q.i : Nat))])
  (fun q => blk g8 44 (rowsV q.rs ++ List.replicate (rs.length - q.i) (Value.slice none 0 0)).toArray :: rowsC 3 q.rs) (fun q => rs.length - q.i) ⟨0, []⟩ ⟨Nat.zero_le _, rfl, fun j _ _ h => absurd h (Nat.not_lt_zero _)⟩ ⟨rfl, rfl, rfl, rfl, trivial⟩ (Pick.all _) ?_
 rintro ⟨i, ms⟩ ⟨hi, hml, hall⟩
 dsimp only at hi hml hall ⊢
 refine DC.seq <| DC.region ?_
 refine Seq.pur rfl rfl (Cj rfl rfl rfl) ?_
 refine Seq.nil <| Fin.then <| DC.seq ?_
 refine DC.cond rfl (fun c3 => ?_) (fun c3 => ?_)
 ·have hlt : i < rs.length := by simpa using c3
  obtain ⟨l, hl⟩ : ∃ x, rs[i]? = some x := ⟨_, List.getElem?_eq_getElem hlt⟩
  obtain ⟨ad, lv, rfl, hc, hsl⟩ := hrb i l hl
  have hll := hs l (List.mem_of_getElem? hl)
  refine DC.skip <| Fin.then <| DC.seq <| DC.block <| DC.seq <| DC.region ?_
  refine Seq.pur rfl rfl (Az rfl rfl) ?_
  refine Seq.pur rfl rfl (Ai (ad' := ad.add i) rfl rfl rfl Tryz.underlying59 Bn (by omega) (by omega) (by rw [Int.toNat_natCast])) ?_
  refine Seq.val rfl rfl (Ah rfl rfl Bo (AE hc)) ?_
  refine Seq.pur rfl rfl (Aw rfl rfl) ?_
  refine Seq.pur rfl rfl (Aw rfl rfl) ?_
  refine Seq.nil <| Fin.then <| DC.region ?_
  refine Seq.pur rfl rfl (Az rfl rfl) ?_
  refine Seq.pur rfl rfl (Az rfl rfl) ?_
  refine Seq.pur rfl rfl (Az rfl rfl) ?_
  refine Seq.pur rfl rfl (Az rfl rfl) ?_
  refine Seq.rel0 rfl rfl (Aq en90 rfl rfl rfl (fun w hw => Jl (hsl.keep0 hw))) ?_
  rintro _ ⟨k, rfl, ⟨hk, hk0⟩, hlk⟩
  refine Seq.rel rfl rfl (Aq en89 rfl rfl rfl (fun w hw => HM (hsl.keep0 hw) hk hll)) ?_
  rintro v21 _ rfl
  simp only [List.cons_append, List.nil_append]
  refine Seq.slcs (i := 0) rfl (by rw [Ez]; omega) ?_
  rintro A21 c21 rfl _
  refine Seq.pur rfl rfl (Ai (ad' := ⟨g8, i, none⟩) rfl rfl rfl Tryz.underlying59 Bn (by omega) (by omega) (by rw [Int.toNat_natCast, AC])) ?_
  refine Seq.sto rfl rfl (AF (cs' := (rowsV (ms ++ [(.slice A21 (tuR l k).length c21, tuR l k)]) ++ List.replicate (rs.length - (i + 1)) (Value.slice none 0 0)).toArray) rfl rfl rfl Bn rfl (by simp; omega) (by rw [show rs.length - i = rs.length - (i + 1) + 1 by omega, ← hml]; exact IU)) ?_
  refine Seq.nil <| Fin.inBlock <| Fin.then <| DC.region ?_
  refine Seq.pur rfl rfl (BN rfl rfl rfl (by omega)) ?_
  refine Seq.pur rfl rfl (Az rfl rfl) ?_
  refine Seq.nil ?_
  refine Fin.own (M := blk g8 44 (rowsV (ms ++ [(.slice A21 (tuR l k).length c21, tuR l k)]) ++ List.replicate (rs.length - (i + 1)) (Value.slice none 0 0)).toArray :: rowsC 3 (ms ++ [(.slice A21 (tuR l k).length c21, tuR l k)])) (fun w hw => ?_) ?_
  ·have e3 : rowsC 3 (ms ++ [(.slice A21 (tuR l k).length c21, tuR l k)]) = rowsC 3 ms ++ [slc (.slice A21 (tuR l k).length c21) 3 1 (ints (tuR l k))] := by simp [rowsC]
   rw [e3]
   refine hw.perm ?_
   exact List.perm_append_comm (l₁ := blk g8 44 (rowsV (ms ++ [(.slice A21 (tuR l k).length c21, tuR l k)]) ++ List.replicate (rs.length - (i + 1)) (Value.slice none 0 0)).toArray :: rowsC 3 ms) (l₂ := [slc (.slice A21 (tuR l k).length c21) 3 1 (ints (tuR l k))])
  refine Fin.again ⟨i + 1, ms ++ [(.slice A21 (tuR l k).length c21, tuR l k)]⟩ (by dsimp only; omega) ⟨by dsimp only; omega, by simp [hml], fun j l' m hj h1 h2 => ?_⟩ ⟨rfl, rfl, rfl, rfl, trivial⟩ (Pick.all _)
  dsimp only at hj h2
  rw [List.map_append] at h2
  rcases Nat.lt_or_ge j i with h | h
  ·rw [List.getElem?_append_left (by rw [List.length_map]; omega)] at h2
   exact hall j l' m h h1 h2
  ·obtain rfl : j = i := by omega
   rw [List.getElem?_append_right (by rw [List.length_map]; omega), List.length_map, hml, Nat.sub_self] at h2
   simp at h2
   subst h2
   rw [hl] at h1
   cases h1
   refine ⟨⟨k, hk, rfl⟩, fun a x ha hx => ?_⟩
   have hx' := (Gc l k).mem_iff.1 hx
   have hpos : 0 < l.length := List.length_pos_of_mem hx'
   have hkl := hk0 hpos
   rw [JZ hkl hpos, Nat.zero_add, Nat.mod_eq_of_lt hkl] at ha
   exact hlk a x ha hx'
 ·refine DC.exit <| Ad <| Ad <| Ag <| Fin.then <| DC.seq <| DC.region ?_
  refine Seq.pur rfl rfl (Az rfl rfl) ?_
  refine Seq.pur rfl rfl (Aw rfl rfl) ?_
  refine Seq.nil <| Fin.then <| DC.ret ?_
  have hie : i = rs.length := by simp at c3; omega
  refine Fin.weak (E' := [(2, _)]) (L' := blk g8 44 (rowsV ms).toArray :: rowsC 3 ms) ⟨rfl, trivial⟩ (.cons' 0 rfl (by rw [hie, Nat.sub_self, EB]) (Pick.all _)) ?_
  refine Aj (.inl rfl) rfl rfl ?_
  exact ⟨g8, ms, rfl, rfl, by rw [List.length_map]; omega, fun j l m h1 h2 => hall j l m (by rw [hie]; exact (List.getElem?_eq_some_iff.1 h1).1) h1 h2⟩
end Go.Fl

namespace Go.Fl
open Go
/-- A slice of bytes that reads so. -/
def ByV (w : World) (v : Value) (bs : List UInt8) : Prop :=
 ∃ A cap, v = .slice A bs.length cap ∧ Rd w A (byc bs) ∧ bs.length ≤ cap ∧ cap ≤ 9223372036854775807
section
variable {w0 w : World} {K : List Nat} {L : List Chunk} {v : Value} {bs : List UInt8}
theorem ByV.keepK (h : ByV w0 v bs) (hk : ∀ ad l c, v = .slice (some ad) l c → ad.block ∉ K) (hw : Own w0 K w L) : ByV w v bs := by
 obtain ⟨A, cap, rfl, hr, h1, h2⟩ := h
 exact ⟨A, cap, rfl, hr.keep (fun ad e => hk ad _ _ (by rw [e])) hw, h1, h2⟩
theorem ByV.keep0 (h : ByV w0 v bs) (hw : Own w0 [] w L) : ByV w v bs := h.keepK (fun _ _ _ _ => by simp) hw
theorem Rd.byte {A : Option Addr} {i : Nat} {x : UInt8} (h : Rd w0 A (byc bs)) (hi : bs[i]? = some x) : ∃ ad, A = some ad ∧ w0.cell? (ad.add i) = some (.int .u8 x.toNat) := h _ _ (byc_get hi)
theorem ByV.at (h : ByV w0 v bs) {i : Nat} {x : UInt8} (hi : bs[i]? = some x) : ∃ ad cap, v = .slice (some ad) bs.length cap ∧ w0.cell? (ad.add i) = some (.int .u8 x.toNat) := by
 obtain ⟨A, cap, rfl, hr, _⟩ := h
 obtain ⟨ad, rfl, hc⟩ := hr.byte hi
 exact ⟨ad, cap, rfl, hc⟩
end
/-- Bytes that no block of K holds. -/
def ByO (v : Value) (bs : List UInt8) (K : List Nat) : Prop := bs ≠ [] → ∀ ad l c, v = .slice (some ad) l c → ad.block ∉ K
section
variable {w0 w : World} {K : List Nat} {L : List Chunk} {v : Value} {bs : List UInt8}
theorem ByV.keep (h : ByV w0 v bs) (ho : ByO v bs K) (hw : Own w0 K w L) : ByV w v bs := by
 by_cases he : bs = []
 ·subst he
  obtain ⟨A, cap, rfl, hr, h1, h2⟩ := h
  exact ⟨A, cap, rfl, fun j u hj => by simp [byc, Lib.byteCells] at hj, h1, h2⟩
 ·exact h.keepK (ho he) hw
theorem ByO.step (h : ByV w0 v bs) (ho : ByO v bs K) (hw : Own w0 K w L) : ByO v bs (idsOf L) := by
 intro he ad l c hva hin
 obtain ⟨A, cap, rfl, hr, h1, h2⟩ := h
 cases hva
 obtain ⟨e, he0⟩ : ∃ e, bs[0]? = some e := ⟨_, List.getElem?_eq_getElem (List.length_pos_iff.2 he)⟩
 obtain ⟨ad', ha, hc⟩ := hr.byte he0
 cases ha
 have hlt := World.block_lt_of_cell? w0 _ hc
 have hb : (ad.add 0).block = ad.block := by unfold Addr.add; split <;> rfl
 rw [hb] at hlt
 rcases hw.fresh _ hin with h5 | h5
 ·exact ho he ad _ _ rfl h5
 ·omega
theorem ByV.has {ad : Addr} {l c i : Nat} {x : UInt8} (h : ByV w0 (.slice (some ad) l c) bs) (ho : ByO (.slice (some ad) l c) bs K) (hi : bs[i]? = some x) : Has w0 K L (ad.add i) (.int .u8 x.toNat) := by
 intro w hw
 obtain ⟨ad', cap, e, hc⟩ := (h.keep ho hw).at hi
 cases e; exact hc
theorem ByV.len (h : ByV w0 v bs) : ∃ A c, v = .slice A bs.length c := by
 obtain ⟨A, c, e, _⟩ := h; exact ⟨A, c, e⟩
end
structure Tk where
 kd : Int
 fr : Int
 en : Int
 nu : Int
def tks : List Tk → List Value
 | [] => []
 | t :: r => .int .i64 t.kd :: .int .i64 t.fr :: .int .i64 t.en :: .int .i64 t.nu :: tks r
@[simp] theorem tks_length (l : List Tk) : (tks l).length = l.length * 4 := by
 induction l with
 | nil => rfl
 | cons e r ih => simp [tks, ih, Nat.succ_mul]
theorem Gd (a b : List Tk) : tks (a ++ b) = tks a ++ tks b := by
 induction a with
 | nil => rfl
 | cons e r ih => simp [tks, ih]
theorem HO : ∀ {l : List Tk} {i : Nat} {t : Tk}, l[i]? = some t → (tks l)[i * 4]? = some (.int .i64 t.kd) ∧ (tks l)[i * 4 + 1]? = some (.int .i64 t.fr) ∧ (tks l)[i * 4 + 2]? = some (.int .i64 t.en) ∧ (tks l)[i * 4 + 3]? = some (.int .i64 t.nu)
 | [], i, e, h => by simp at h
 | x :: r, 0, e, h => by simp at h; subst h; simp [tks]
 | x :: r, i + 1, e, h => by
  simp at h
  have := HO h
  rw [Nat.succ_mul]
  exact ⟨by simpa [tks] using this.1, by simpa [tks] using this.2.1, by simpa [tks] using this.2.2.1, by simpa [tks] using this.2.2.2⟩
def isDig (b : UInt8) : Bool := decide (48 ≤ b.toNat) && decide (b.toNat ≤ 57)
/-- How many digits stand ahead. -/
def digs : List UInt8 → Nat
 | [] => 0
 | b :: r => if isDig b then digs r + 1 else 0
def decF (l : List UInt8) : Int := l.foldl (fun n b => 10 * n + ((b.toNat : Int) - 48)) 0
theorem HE (l : List UInt8) (b : UInt8) : decF (l ++ [b]) = 10 * decF l + ((b.toNat : Int) - 48) := by simp [decF]
/-- What a scan answers: the tokens, or the place and the number of what is wrong. -/
inductive ScA where
 | ok (l : List Tk)
 | bad (at' err : Int)
def scanF (at' : Nat) (l : List UInt8) (acc : List Tk) : ScA :=
 match l with
 | [] => .ok (acc ++ [⟨3, at', at', 0⟩])
 | c :: r =>
  if isDig c then
   if 9 < digs (c :: r) ∨ (1 < digs (c :: r) ∧ c.toNat = 48) then .bad at' 12
   else scanF (at' + (digs r + 1)) (r.drop (digs r)) (acc ++ [⟨1, at', (at' + (digs r + 1) : Nat), decF ((c :: r).take (digs (c :: r)))⟩])
  else if c.toNat = 10 then scanF (at' + 1) r (acc ++ [⟨2, at', (at' + 1 : Nat), 0⟩])
  else if c.toNat = 32 ∨ c.toNat = 9 ∨ c.toNat = 13 then scanF (at' + 1) r acc
  else .bad at' 11
termination_by l.length
decreasing_by all_goals simp <;> omega
def scanA (bs : List UInt8) : ScA := if 33554432 < bs.length then .bad 33554432 10 else scanF 0 bs []
theorem HD {bs : List UInt8} {i : Nat} {c : UInt8} (h : bs[i]? = some c) (hd : isDig c = true) : digs (bs.drop i) = digs (bs.drop (i + 1)) + 1 := by
 have hl := (List.getElem?_eq_some_iff.1 h).1
 rw [List.drop_eq_getElem_cons hl]
 have e : bs[i] = c := (List.getElem?_eq_some_iff.1 h).2
 rw [e]; simp [digs, hd]
theorem digs_end {bs : List UInt8} {i : Nat} (h : ∀ c, bs[i]? = some c → isDig c = false) : digs (bs.drop i) = 0 := by
 by_cases hl : i < bs.length
 ·rw [List.drop_eq_getElem_cons hl]
  have := h _ (List.getElem?_eq_getElem hl)
  simp [digs, this]
 ·rw [List.drop_eq_nil_of_le (by omega)]; rfl
/-- digits: from i to j all are. -/
theorem JD {bs : List UInt8} : ∀ (k i : Nat), (∀ j, i ≤ j → j < i + k → ∃ c, bs[j]? = some c ∧ isDig c = true) → digs (bs.drop i) = k + digs (bs.drop (i + k))
 | 0, i, h => by simp
 | k + 1, i, h => by
  obtain ⟨c, h1, h2⟩ := h i (Nat.le_refl _) (by omega)
  rw [HD h1 h2, JD k (i + 1) (fun j h3 h4 => h j (by omega) (by omega)), show i + 1 + k = i + (k + 1) by omega]
  omega
theorem LO {bs : List UInt8} {i : Nat} {acc : List Tk} (h : bs.length ≤ i) (hi : i ≤ bs.length) : scanF i (bs.drop i) acc = .ok (acc ++ [⟨3, i, i, 0⟩]) := by
 rw [List.drop_eq_nil_of_le h]; simp [scanF]
theorem Hh {bs : List UInt8} {i k : Nat} {c : UInt8} {acc : List Tk} (h : bs[i]? = some c) (hd : isDig c = true) (hk : digs (bs.drop i) = k) (h9 : k ≤ 9) (h0 : ¬(1 < k ∧ c.toNat = 48)) :
  scanF i (bs.drop i) acc = scanF (i + k) (bs.drop (i + k)) (acc ++ [⟨1, i, (i + k : Nat), decF ((bs.drop i).take k)⟩]) := by
 have hl := (List.getElem?_eq_some_iff.1 h).1
 have e : bs[i] = c := (List.getElem?_eq_some_iff.1 h).2
 have hk' := HD h hd
 have e2 : bs.drop i = c :: bs.drop (i + 1) := by rw [List.drop_eq_getElem_cons hl, e]
 have e3 : digs (bs.drop (i + 1)) + 1 = k := by omega
 have e4 : digs (c :: bs.drop (i + 1)) = k := by rw [← e2]; exact hk
 have e5 : (bs.drop (i + 1)).drop (digs (bs.drop (i + 1))) = bs.drop (i + k) := by rw [List.drop_drop]; congr 1; omega
 rw [e2, scanF, if_pos hd, e4, if_neg (fun h1 => h1.elim (fun h => by omega) h0), e5, e3]
theorem EP {bs : List UInt8} {i k : Nat} {c : UInt8} {acc : List Tk} (h : bs[i]? = some c) (hd : isDig c = true) (hk : digs (bs.drop i) = k) (h9 : 9 < k ∨ (1 < k ∧ c.toNat = 48)) :
  scanF i (bs.drop i) acc = .bad i 12 := by
 have hl := (List.getElem?_eq_some_iff.1 h).1
 have e : bs[i] = c := (List.getElem?_eq_some_iff.1 h).2
 have e2 : bs.drop i = c :: bs.drop (i + 1) := by rw [List.drop_eq_getElem_cons hl, e]
 have e4 : digs (c :: bs.drop (i + 1)) = k := by rw [← e2]; exact hk
 rw [e2, scanF, if_pos hd, e4, if_pos h9]
theorem J6 {bs : List UInt8} {i : Nat} {c : UInt8} {acc : List Tk} (h : bs[i]? = some c) (hd : isDig c = false) (hc : c.toNat = 10) :
  scanF i (bs.drop i) acc = scanF (i + 1) (bs.drop (i + 1)) (acc ++ [⟨2, i, (i + 1 : Nat), 0⟩]) := by
 have hl := (List.getElem?_eq_some_iff.1 h).1
 have e : bs[i] = c := (List.getElem?_eq_some_iff.1 h).2
 rw [List.drop_eq_getElem_cons hl, e, scanF, if_neg (by simp [hd]), if_pos hc]
theorem Fh {bs : List UInt8} {i : Nat} {c : UInt8} {acc : List Tk} (h : bs[i]? = some c) (hd : isDig c = false) (hc : c.toNat ≠ 10) (h3 : c.toNat = 32 ∨ c.toNat = 9 ∨ c.toNat = 13) :
  scanF i (bs.drop i) acc = scanF (i + 1) (bs.drop (i + 1)) acc := by
 have hl := (List.getElem?_eq_some_iff.1 h).1
 have e : bs[i] = c := (List.getElem?_eq_some_iff.1 h).2
 rw [List.drop_eq_getElem_cons hl, e, scanF, if_neg (by simp [hd]), if_neg hc, if_pos h3]
theorem LP {bs : List UInt8} {i : Nat} {c : UInt8} {acc : List Tk} (h : bs[i]? = some c) (hd : isDig c = false) (hc : c.toNat ≠ 10) (h3 : ¬(c.toNat = 32 ∨ c.toNat = 9 ∨ c.toNat = 13)) :
  scanF i (bs.drop i) acc = .bad i 11 := by
 have hl := (List.getElem?_eq_some_iff.1 h).1
 have e : bs[i] = c := (List.getElem?_eq_some_iff.1 h).2
 rw [List.drop_eq_getElem_cons hl, e, scanF, if_neg (by simp [hd]), if_neg hc, if_neg h3]
section
variable {P : Program} {n : Nat} {ds : List Deferred} {E : Env} {o : Oper} {x y z : Operand} {v u : Value}
theorem wrap_u8 {i : Int} (h : 0 ≤ i ∧ i < 256) : IntKind.u8.wrap i = i := by
 unfold IntKind.wrap
 simp [IntKind.bits, IntKind.signed]
 omega
theorem p_sub8 {t t' : TypeId} {i j : Int} (ho : o.op = .binOp .sub t x y t') (hx : ev n E x = some (.int .u8 i)) (hy : ev n E y = some (.int .u8 j))
  (hb : 0 ≤ i - j ∧ i - j < 256) : Pur P n ds E o (.int .u8 (i - j)) := CG (r := 0) ho hx hy fun w => by simp [binOp, Op.intArith, wrap_u8 hb]
theorem Kk {src dst : Nat} {i : Int} (ho : o.op = .convert src dst x) (hx : ev n E x = some (.int .u8 i)) (hs : P.underlying src = some (.int .u8)) (hd : P.underlying dst = some (.int .i64)) (h0 : 0 ≤ i) (h1 : i < 256) :
  Pur P n ds E o (.int .i64 i) := by
 intro a w ha
 have hk : P.intKind dst = .i64 := by simp [Program.intKind, hd]
 have := run_convert_int (P := P) w src dst .u8 i (by rw [hs]; rfl) (by rw [hk]; exact hd)
 rw [hk, Dl (by omega)] at this
 simp [execOp, ho, ha.ev hx, this]
end
end Go.Fl

namespace Go.Fl
open Go
section
variable {P : Program} {ops : Array Oper} {w0 w : World} {K : List Nat} {n : Nat} {ds : List Deferred} {E : Env} {L F : List Chunk} {o : Oper} {x y z : Operand} {v u : Value} {Q : Exit → Act → World → Prop}
theorem DC.scope {c : Code} (h : DC P w0 K n ds (Exit.noGoto Q) c E L) : DC P w0 K n ds Q (.scope c) E L := fun a w ha hL => wp_scope_straight (h a w ha hL)
theorem DC.label {l : Nat} (h : Fin w0 K n ds (Q .normal) E L) : DC P w0 K n ds Q (.label l) E L := fun a w ha hL => wp_label (h a w ha hL)
theorem Fin.scope (h : Fin w0 K n ds (Q .normal) E L) : Fin w0 K n ds (Exit.noGoto Q .normal) E L := h
theorem B0 (h : Fin w0 K n ds (Q .ret) E L) : Fin w0 K n ds (Exit.noGoto Q .ret) E L := h
theorem Lg {ty : TypeId} {g t : Nat} {cs : Array Value} (hg : w.heap[g]? = some (.cells cs t (0, 0))) (ht : aggT P ty = some true) (hs : sizeT P ty = some cs.size) : (loadVar ty ⟨g, 0, none⟩).run P w = .ok (.agg cs) w := Ef hg ht hs
theorem Cw {fn : Func} {p q : Tmp} {ty ty' : TypeId} {g t g' t' : Nat} {cs cs' : Array Value} {C : Value → List Chunk → Prop} {e : Exit} (he : e = .ret ∨ e = .normal) (hr : fn.results = #[.cell p ty, .cell q ty'])
  (hv : ev n E (.tmp p) = some (.pointer (some ⟨g, 0, none⟩))) (hv' : ev n E (.tmp q) = some (.pointer (some ⟨g', 0, none⟩))) [h : Find L g t cs] [h' : Find L g' t' cs'] (ht : aggT P ty = some true) (hs : sizeT P ty = some cs.size) (ht' : aggT P ty' = some true) (hs' : sizeT P ty' = some cs'.size)
  (hR : ∃ L', (∀ w, Own w0 K w L → Own w0 K w L') ∧ C (.tuple #[.agg cs, .agg cs']) L') : Fin w0 K n [] (bodyPost P fn (Ret w0 K C) e) E L := by
 intro a w ha hO
 obtain ⟨L', hL, hC⟩ := hR
 have hp : a.tmps.getD p undef = .pointer (some ⟨g, 0, none⟩) := by have := ha.ev hv; simpa only [Act.eval] using this
 have hq : a.tmps.getD q undef = .pointer (some ⟨g', 0, none⟩) := by have := ha.ev hv'; simpa only [Act.eval] using this
 have h1 : a.defers = [] ∧ ∃ v, (results fn a.tmps).run P w = .ok v w ∧ Ret w0 K C (.returned v) w :=
  ⟨ha.defers, _, Fk hr hp hq (Lg (hO.holds _ h.mem) ht hs) (Lg (hO.holds _ h'.mem) ht' hs'), _, L', rfl, hC, hL w hO⟩
 rcases he with rfl | rfl <;> exact h1
/-- A token out of a slice of ours. -/
theorem Ic {i j t l c : Nat} {ad : Addr} {tk : List Tk} {k : Tk} (hi : L[i]? = some (slc (.slice (some ad) l c) t 4 (tks tk))) (hj : tk[j]? = some k) :
  Hass w0 K L (ad.add (j * 4)) [.int .i64 k.kd, .int .i64 k.fr, .int .i64 k.en, .int .i64 k.nu] := by
 obtain ⟨h1, h2, h3, h4⟩ := HO hj
 intro w hw m u hm
 have hr := hw.perm (AI hi).symm
 obtain ⟨A, len, cap, e, _, hR, _⟩ := CE hr
 cases e
 have key : ∀ {q : Nat} {u : Value}, (tks tk)[j * 4 + q]? = some u → w.cell? ((ad.add (j * 4)).add q) = some u := by
  intro q u hq
  obtain ⟨ad', e, hc⟩ := hR _ _ hq
  cases e
  by_cases h0 : q = 0
  ·subst h0
   have : (ad.add (j * 4)).add 0 = ad.add (j * 4) := by simp [Addr.add]
   rw [this]; exact hc
  ·rw [DK _ _ _ (by omega)]; exact hc
 match m, hm with
 | 0, hm => simp at hm; subst hm; exact key h1
 | 1, hm => simp at hm; subst hm; exact key h2
 | 2, hm => simp at hm; subst hm; exact key h3
 | 3, hm => simp at hm; subst hm; exact key h4
theorem CW {i j t l c : Nat} {ad : Addr} {tk : List Tk} {k : Tk} (hi : L[i]? = some (slc (.slice (some ad) l c) t 4 (tks tk))) (hj : tk[j]? = some k) (q : Nat) (hq : [Value.int .i64 k.kd, .int .i64 k.fr, .int .i64 k.en, .int .i64 k.nu][q]? = some u) :
  Has w0 K L ((ad.add (j * 4)).add q) u := fun w hw => Ic hi hj w hw q u hq
/-- A slice of tokens that reads so. -/
def TkV (w : World) (v : Value) (tk : List Tk) : Prop := ∃ A cap, v = .slice A tk.length cap ∧ Rd w A (tks tk) ∧ tk.length ≤ cap ∧ cap ≤ 9223372036854775807
theorem HN {t : Nat} {tk : List Tk} (hw : Own w0 K w L) (i : Nat) (h : L[i]? = some (slc v t 4 (tks tk))) : TkV w v tk := by
 obtain ⟨A, len, cap, rfl, h1, hr, h2, h3⟩ := CE (hw.perm (AI h).symm)
 simp at h1
 obtain rfl : tk.length = len := by omega
 exact ⟨A, cap, rfl, hr, h2, h3⟩
theorem Rd.tk {A : Option Addr} {tk : List Tk} {i : Nat} {k : Tk} (h : Rd w A (tks tk)) (hi : tk[i]? = some k) : ∃ ad, A = some ad ∧ ∀ (q : Nat) u, [Value.int .i64 k.kd, .int .i64 k.fr, .int .i64 k.en, .int .i64 k.nu][q]? = some u → w.cell? (ad.add (i * 4 + q)) = some u := by
 obtain ⟨h1, h2, h3, h4⟩ := HO hi
 obtain ⟨ad, rfl, _⟩ := h _ _ h1
 refine ⟨ad, rfl, fun q u hq => ?_⟩
 have key : ∀ {q : Nat} {u : Value}, (tks tk)[i * 4 + q]? = some u → w.cell? (ad.add (i * 4 + q)) = some u := by
  intro q u hq
  obtain ⟨ad', e, hc⟩ := h _ _ hq
  cases e; exact hc
 match q, hq with
 | 0, hq => simp at hq; subst hq; exact key h1
 | 1, hq => simp at hq; subst hq; exact key h2
 | 2, hq => simp at hq; subst hq; exact key h3
 | 3, hq => simp at hq; subst hq; exact key h4
end
/-! ### lines of a graph's text -/
structure RdS where
 n : Int
 ps : List Pr
 hd : Bool
 m : Int
inductive LnA where
 | ok (s : RdS)
 | bad (c a : Int)
def lineF (s : RdS) (l : List Tk) : LnA :=
 match l with
 | [] => .bad 0 0
 | t :: r =>
  if s.hd = false then
   match r with
   | [u] => if 1048576 < t.nu then .bad 21 t.fr else if 2097152 < u.nu then .bad 22 u.fr else .ok ⟨t.nu, s.ps, true, u.nu⟩
   | _ => .bad 20 t.fr
  else if s.m ≤ (s.ps.length : Int) then .bad 26 t.fr
  else
   match r with
   | [u] => if s.n ≤ t.nu then .bad 24 t.fr else if s.n ≤ u.nu then .bad 24 u.fr else .ok ⟨s.n, s.ps ++ [(t.nu, u.nu)], true, s.m⟩
   | _ => .bad 23 t.fr
/-- The lines of the tokens that are left, l what the line has so far. -/
def feedF (s : RdS) (l : List Tk) : List Tk → LnA
 | [] => .ok s
 | t :: r =>
  if t.kd = 1 then feedF s (l ++ [t]) r
  else
   match (if l = [] then LnA.ok s else lineF s l) with
   | .bad c a => .bad c a
   | .ok s' => if t.kd = 3 then .ok s' else feedF s' [] r
inductive RawA where
 | ok (n : Int) (ps : List Pr)
 | bad (c a : Int)
def endF (k : Nat) : LnA → RawA
 | .bad c a => .bad c a
 | .ok s => if s.hd = false then .bad 20 k else if (s.ps.length : Int) < s.m then .bad 25 k else .ok s.n s.ps
def rawF (bs : List UInt8) : RawA :=
 if 16777216 < bs.length then .bad 10 16777216
 else
  match scanA bs with
  | .bad a e => .bad e a
  | .ok tk => endF bs.length (feedF ⟨0, [], false, 0⟩ [] tk)
theorem feedF_num {s : RdS} {l r : List Tk} {t : Tk} (h : t.kd = 1) : feedF s l (t :: r) = feedF s (l ++ [t]) r := by simp [feedF, h]
theorem feedF_bad {s : RdS} {l r : List Tk} {t : Tk} {c a : Int} (h : t.kd ≠ 1) (hl : l ≠ []) (hb : lineF s l = .bad c a) : feedF s l (t :: r) = .bad c a := by simp [feedF, h, hl, hb]
theorem HB {s s' : RdS} {l r : List Tk} {t : Tk} (h : t.kd ≠ 1) (hl : (l = [] ∧ s' = s) ∨ (l ≠ [] ∧ lineF s l = .ok s')) (h3 : t.kd = 3) : feedF s l (t :: r) = .ok s' := by
 rcases hl with ⟨h1, rfl⟩ | ⟨h1, h2⟩
 ·simp [feedF, h1, h3]
 ·simp [feedF, h1, h2, h3]
theorem Jx {s s' : RdS} {l r : List Tk} {t : Tk} (h : t.kd ≠ 1) (hl : (l = [] ∧ s' = s) ∨ (l ≠ [] ∧ lineF s l = .ok s')) (h3 : t.kd ≠ 3) : feedF s l (t :: r) = feedF s' [] r := by
 rcases hl with ⟨h1, rfl⟩ | ⟨h1, h2⟩
 ·simp [feedF, h, h1, h3]
 ·simp [feedF, h, h1, h2, h3]
theorem lineF_len {s s' : RdS} {l : List Tk} (h : lineF s l = .ok s') : s'.ps.length ≤ s.ps.length + 1 := by
 unfold lineF at h
 split at h
 ·cases h
 split at h
 ·split at h
  ·split at h
   ·cases h
   ·split at h
    ·cases h
    ·cases h; simp
  ·cases h
 ·split at h
  ·cases h
  ·split at h
   ·split at h
    ·cases h
    ·split at h
     ·cases h
     ·cases h; simp
   ·cases h
theorem LN : ∀ (k : Nat) (l : List UInt8) (at' : Nat) (acc : List Tk) {a e : Int}, l.length ≤ k → scanF at' l acc = .bad a e → e ≠ 0 := by
 intro k
 induction k with
 | zero =>
  intro l at' acc a e hk h
  rw [List.eq_nil_of_length_eq_zero (by omega : l.length = 0)] at h
  simp [scanF] at h
 | succ k ih =>
  intro l at' acc a e hk h
  match l, hk, h with
  | [], hk, h => simp [scanF] at h
  | c :: r, hk, h =>
   simp at hk
   rw [scanF] at h
   split at h
   ·split at h
    ·cases h; decide
    ·exact ih _ _ _ (by simp; omega) h
   ·split at h
    ·exact ih _ _ _ hk h
    ·split at h
     ·exact ih _ _ _ hk h
     ·cases h; decide
theorem LQ {bs : List UInt8} {a e : Int} (h : scanA bs = .bad a e) : e ≠ 0 := by
 unfold scanA at h
 split at h
 ·cases h; decide
 ·exact LN _ _ _ _ (Nat.le_refl _) h
section
variable {w0 w : World} {K : List Nat} {F : List Chunk}
theorem own_cut0 {t m len cap : Nat} {A : Option Addr} {vs : List Value} (hm : 0 < m) (hw : Own w0 K w (slc (.slice A len cap) t m vs :: F)) : Own w0 K w (slc (.slice A 0 cap) t m [] :: F) := by
 rcases B3 hw with ⟨e, rfl, _⟩ | ⟨g, len', cap', sp, e, h1, h2, h3, h4, hO⟩
 ·cases e; exact hw
 ·cases e
  exact B7 (m := m) (by simp) hm (Nat.zero_le _) h3 (by simp at h4 ⊢; omega) (by simp) hO
theorem L5 {L : List Chunk} {t m len cap : Nat} {A : Option Addr} {vs : List Value} (i : Nat) (hi : L[i]? = some (slc (.slice A len cap) t m vs)) (hm : 0 < m) (hw : Own w0 K w L) : Own w0 K w (slc (.slice A 0 cap) t m [] :: L.eraseIdx i) :=
 own_cut0 hm (hw.perm (AI hi).symm)
theorem DC.shapeT {P : Program} {n : Nat} {ds : List Deferred} {E : Env} {L : List Chunk} {v : Value} {Q : Exit → Act → World → Prop} {c : Code} {t : Nat} {tk : List Tk} (i : Nat) (hi : L[i]? = some (slc v t 4 (tks tk))) (h : (∃ A c, v = .slice A tk.length c) → DC P w0 K n ds Q c E L) : DC P w0 K n ds Q c E L := by
 intro a w ha hw
 obtain ⟨A, cap, e, _⟩ := HN hw i hi
 exact h ⟨A, cap, e⟩ a w ha hw
theorem DC.shapeP {P : Program} {n : Nat} {ds : List Deferred} {E : Env} {L : List Chunk} {v : Value} {Q : Exit → Act → World → Prop} {c : Code} {t : Nat} {es : List Pr} (i : Nat) (hi : L[i]? = some (slc v t 2 (prs es))) (hf : es.length ≤ 8796093021952) (h : (∃ A c, v = .slice A es.length c) → DC P w0 K n ds Q c E L) : DC P w0 K n ds Q c E L := by
 intro a w ha hw
 obtain ⟨A, cap, e, _⟩ := Ci hw i hi hf
 exact h ⟨A, cap, e⟩ a w ha hw
theorem HJ {P : Program} {n : Nat} {ds : List Deferred} {E : Env} {L : List Chunk} {v : Value} {Q : Exit → Act → World → Prop} {c : Code} {t : Nat} {xs : List Int} (i : Nat) (hi : L[i]? = some (slc v t 1 (ints xs))) (hf : xs.length ≤ 17592186044416) (h : (∃ A c, v = .slice A xs.length c) → DC P w0 K n ds Q c E L) : DC P w0 K n ds Q c E L := by
 intro a w ha hw
 obtain ⟨A, cap, e, _⟩ := C4 hw i hi hf
 exact h ⟨A, cap, e⟩ a w ha hw
theorem DC.rdI {P : Program} {n : Nat} {ds : List Deferred} {E : Env} {L : List Chunk} {Q : Exit → Act → World → Prop} {cd : Code} {t l c : Nat} {A : Option Addr} {xs : List Int} (i : Nat) (hi : L[i]? = some (slc (.slice A l c) t 1 (ints xs))) (h : (0 < xs.length → ∃ ad, A = some ad) → DC P w0 K n ds Q cd E L) : DC P w0 K n ds Q cd E L := by
 intro a w ha hw
 refine h (fun h0 => ?_) a w ha hw
 obtain ⟨A', len, cap, e, _, hR, _⟩ := CE (hw.perm (AI hi).symm)
 cases e
 obtain ⟨ad, e, _⟩ := hR.int (List.getElem?_eq_getElem h0)
 exact ⟨ad, e⟩
end
end Go.Fl

namespace Go.Fl
open Go
/-- A block of cells, whatever of it is marked. -/
def fro (g t : Nat) (cs : Array Value) : Chunk :=
 ⟨[g], fun w => ∃ fz, w.heap[g]? = some (.cells cs t fz), fun w w' h ⟨fz, hh⟩ => ⟨fz, (h g (List.mem_cons_self ..)).trans hh⟩⟩
section
variable {P : Program} {w0 w : World} {K : List Nat} {n : Nat} {ds : List Deferred} {E : Env} {L F : List Chunk} {o : Oper} {x y z : Operand} {v u : Value}
theorem Jv {g i k : Nat} {cs : Array Value} {t : Nat} (hg : w.heap[g]? = some (.cells cs t (0, 0))) :
  ∃ fz, (w.freeze ⟨g, i, none⟩ k).heap[g]? = some (.cells cs t fz) ∧ (∀ j, j ≠ g → (w.freeze ⟨g, i, none⟩ k).heap[j]? = w.heap[j]?) ∧ (w.freeze ⟨g, i, none⟩ k).heap.size = w.heap.size ∧
   (w.freeze ⟨g, i, none⟩ k).os = w.os ∧ (w.freeze ⟨g, i, none⟩ k).tape = w.tape ∧ (w.freeze ⟨g, i, none⟩ k).output = w.output ∧ (w.freeze ⟨g, i, none⟩ k).drawn = w.drawn := by
 unfold World.freeze
 split
 ·exact ⟨_, hg, fun _ _ => rfl, rfl, rfl, rfl, rfl, rfl⟩
 ·refine ⟨_, by simp [Array.getElem?_modify, hg]; rfl, fun j hj => ?_, by simp, rfl, rfl, rfl, rfl⟩
  simp [Array.getElem?_modify, Ne.symm hj]
theorem g_mark {t e g len cap : Nat} {cs : Array Value} (ho : o.op = .convert t t x) (hx : ev n E x = some (.slice (some ⟨g, 0, none⟩) len cap)) (ht : P.underlying t = some (.slice e)) (he : P.underlying e = some (.int .u8))
  (hown : ∀ w, Own w0 K w L → Own w0 K w (blk g e cs :: F)) : Gen P w0 K n ds E L o (fun v M => v = .slice (some ⟨g, 0, none⟩) len cap ∧ M = fro g e cs :: F) := by
 intro a w ha hw
 have hO := hown w hw
 have hg : w.heap[g]? = some (.cells cs e (0, 0)) := hO.holds (blk g e cs) (List.mem_cons_self ..)
 have hsh : w.shape? g = some (e, cs.size) := by unfold World.shape?; rw [hg]
 have hrun : (execOp a.eval o).run P w = .ok (.value (.slice (some ⟨g, 0, none⟩) len cap)) (w.freeze ⟨g, cs.size, none⟩ 1) := by
  simp [execOp, ho, ha.ev hx, convert, run_underlying ht, run_underlying he, markStringish, hsh]
 obtain ⟨fz, h1, h2, h3, h4, h5, h6, h7⟩ := Jv (i := cs.size) (k := 1) hg
 unfold RunsTo
 rw [hrun]
 refine ⟨_, ⟨rfl, rfl⟩, ?_⟩
 have h1' : Own w [g] (w.freeze ⟨g, cs.size, none⟩ 1) [fro g e cs] := by
  refine ⟨h4, h5, h6, ?_, by omega, fun k hk hn => h2 k (by simpa using hn), by simp [fro], fun q hq => ?_, fun q hq => ?_, fun c hc => ?_⟩
  ·rw [h7]; exact Lo.refl _
  ·simp [fro] at hq; subst hq; exact .inl (by simp)
  ·simp [fro] at hq; subst hq; rw [h3]; exact (Array.getElem?_eq_some_iff.1 hg).1
  ·simp at hc; subst hc; exact ⟨fz, h1⟩
 exact Own.frame (Lc := [blk g e cs]) hO h1' (fun k hk => by simp [blk] at hk ⊢; exact hk)
theorem byv_fro {g t cap : Nat} {bs : List UInt8} {sp : List Value} (hw : Own w0 K w L) (i : Nat) (hi : L[i]? = some (fro g t (byc bs ++ sp).toArray)) (h1 : bs.length ≤ cap) (h2 : cap ≤ 9223372036854775807) : ByV w (.slice (some ⟨g, 0, none⟩) bs.length cap) bs := by
 refine ⟨_, _, rfl, fun j u hj => ⟨_, rfl, ?_⟩, h1, h2⟩
 obtain ⟨fz, hg⟩ := hw.holds _ (List.mem_of_getElem? hi)
 rw [AC, cell_of_row w g j _ t fz hg]
 have hjl := (List.getElem?_eq_some_iff.1 hj).1
 simpa [List.getElem?_append_left hjl] using hj
end
end Go.Fl

namespace Go.Fl
open Go
def pk (L : List Chunk) : Chunk :=
 ⟨idsOf L, fun w => ∀ c, c ∈ L → c.holds w, fun w w' h hh c hc => c.loc w w' (fun g hg => h g (Fx.2 ⟨c, hc, hg⟩)) (hh c hc)⟩
section
variable {w0 w : World} {K : List Nat} {L F : List Chunk}
theorem Fs (h : Own w0 K w (L ++ F)) : Own w0 K w (pk L :: F) := by
 have e : idsOf (pk L :: F) = idsOf (L ++ F) := by simp [pk]
 refine ⟨h.os, h.tape, h.output, h.drawn, h.size, h.old, by rw [e]; exact h.nodup, fun g hg => h.fresh g (by rwa [e] at hg), fun g hg => h.lt g (by rwa [e] at hg), fun c hc => ?_⟩
 rcases List.mem_cons.1 hc with rfl | hc
 ·exact fun d hd => h.holds d (List.mem_append_left _ hd)
 ·exact h.holds c (List.mem_append_right _ hc)
theorem own_unpk (h : Own w0 K w (pk L :: F)) : Own w0 K w (L ++ F) := by
 have e : idsOf (pk L :: F) = idsOf (L ++ F) := by simp [pk]
 refine ⟨h.os, h.tape, h.output, h.drawn, h.size, h.old, by rw [← e]; exact h.nodup, fun g hg => h.fresh g (by rwa [← e] at hg), fun g hg => h.lt g (by rwa [← e] at hg), fun c hc => ?_⟩
 rcases List.mem_append.1 hc with hc | hc
 ·exact h.holds (pk L) (List.mem_cons_self ..) c hc
 ·exact h.holds c (List.mem_cons_of_mem _ hc)
theorem Cr {M : List Chunk} (i : Nat) (hi : M[i]? = some (pk L)) (h : Own w0 K w M) : Own w0 K w (L ++ M.eraseIdx i) := own_unpk (h.perm (AI hi).symm)
end
end Go.Fl

namespace Go.Fl
open Go Go.Proofs
/-- A piece of memory that holds lists of numbers. -/
def RowC (c : Chunk) (v : Value) (ls : List (List Int)) : Prop := ∀ (w0 : World) (K : List Nat) (w : World) (L : List Chunk) (i : Nat), Own w0 K w L → L[i]? = some c → LsV w v ls
theorem Et {rs : List (List Int)} {v : Value} {w : World} (hl : LsV w v rs) (hn : rs.length ≤ 1000000000) (hs : ∀ l, l ∈ rs → l.length ≤ 1000000000) :
  Calls Tryz.prog 28 #[v] w (Ret w [] fun r M => ∃ A l c ms, r = .slice A l c ∧ M = slc (.slice A l c) 44 1 (rowsV ms) :: rowsC 3 ms ∧ ms.map Prod.snd = rs) := by
 obtain ⟨B, capb, rfl, hrb, hlb, hcb, hleb⟩ := hl
 refine At (K := []) (args := [_]) (L := []) Tryz.func28 rfl Tryz.ntmps28 rfl (Own.start _ _) ?_
 refine DC.seq <| DC.region ?_
 refine Seq.pur rfl rfl (Aw rfl rfl) ?_
 refine Seq.nil <| Fin.then <| DC.seq <| DC.region ?_
 refine Seq.pur rfl rfl (Aw rfl rfl) ?_
 refine Seq.nil <| Fin.then <| DC.seq <| DC.seq <| DC.region ?_
 refine Seq.pur rfl rfl (Aw rfl rfl) ?_
 refine Seq.nil <| Fin.then <| DC.block ?_
 refine DC.own (fun w hw => Bm (t := 44) (m := 1) hw) ?_
 refine DC.loop (ι := CcI) (fun j => j.i ≤ rs.length ∧ j.rs.map Prod.snd = rs.take j.i) (fun j => [(0, .slice B rs.length capb), (3, j.v), (4, .int .i64 (j.i : Nat))])
  (fun j => slc j.v 44 1 (rowsV j.rs) :: rowsC 3 j.rs) (fun j => rs.length - j.i) ⟨0, .slice none 0 0, []⟩ ⟨Nat.zero_le _, rfl⟩ ⟨rfl, rfl, rfl, trivial⟩ (Pick.all _) ?_
 rintro ⟨i, v, ms⟩ ⟨hi, hms⟩
 dsimp only at hi hms ⊢
 have hml : ms.length = i := by have := congrArg List.length hms; simp at this; omega
 refine DC.seq <| DC.seq <| DC.region ?_
 refine Seq.pur rfl rfl (Az rfl rfl) ?_
 refine Seq.pur rfl rfl (Az rfl rfl) ?_
 refine Seq.pur rfl rfl (BM rfl rfl Tryz.underlying59) ?_
 refine Seq.pur rfl rfl (Cj rfl rfl rfl) ?_
 refine Seq.nil <| Fin.then ?_
 refine DC.cond rfl (fun c3 => ?_) (fun c3 => ?_)
 ·have hlt : i < rs.length := by simpa using c3
  obtain ⟨l, hl⟩ : ∃ x, rs[i]? = some x := ⟨_, List.getElem?_eq_getElem hlt⟩
  obtain ⟨ad, lv, rfl, hc, hsl⟩ := hrb i l hl
  have hll := hs l (List.mem_of_getElem? hl)
  obtain ⟨Ax, cx, rfl⟩ : ∃ A c, lv = .slice A l.length c := by obtain ⟨A, c, h, _⟩ := hsl; exact ⟨A, c, h⟩
  refine DC.skip <| Fin.then <| DC.seq <| DC.block <| DC.region ?_
  refine Seq.pur rfl rfl (Az rfl rfl) ?_
  refine Seq.new rfl rfl (AP (cs := #[]) rfl rfl Tryz.underlying44 AN B6 rfl (by decide) (by decide) rfl rfl) fun g12 => ?_
  refine Seq.pur rfl rfl (Az rfl rfl) ?_
  refine Seq.pur rfl rfl (Az rfl rfl) ?_
  refine Seq.pur rfl rfl (Ai (ad' := ad.add i) rfl rfl rfl Tryz.underlying59 Bn (by omega) (by omega) (by rw [Int.toNat_natCast])) ?_
  refine Seq.val rfl rfl (Ah rfl rfl Bo (AE hc)) ?_
  refine Seq.rel rfl rfl (Fm rfl rfl rfl Tryz.underlying44 AN DP B6 rfl (by decide) (by decide) (SlV.src2 (w := w) hsl) (by simp) (by omega)) ?_
  rintro _ _ ⟨⟨A17, l17, c17, rfl⟩, rfl⟩
  simp only [List.cons_append, List.nil_append]
  refine Seq.own (fun w hw => H3 (by decide) hw) ?_
  refine Seq.new rfl rfl (AP (cs := #[_]) rfl rfl Tryz.underlying59 Bn CH rfl (by decide) (by decide) rfl rfl) fun g18 => ?_
  refine Seq.gen rfl rfl (Gen.shape (AR (F := blk g18 44 #[.slice A17 l17 c17] :: slc (.slice A17 l17 c17) 3 1 (ints l) :: rowsC 3 ms) (vs := rowsV ms) (k := 1) (news := [.slice A17 l17 c17]) rfl rfl rfl Tryz.underlying59 Bn GT CH rfl (by decide) (by decide)
   (fun w hw => hw.pick (.cons 2 rfl (Pick.all _))) (.inl ⟨_, _, rfl, Ak rfl⟩) rfl (fun u hu => by rw [List.mem_singleton.1 hu]; rfl) (by rw [rowsV_length]; omega))) ?_
  rintro _ _ ⟨⟨A19, l19, c19, rfl⟩, rfl⟩
  refine Seq.pur rfl rfl (Aw rfl rfl) ?_
  refine Seq.nil <| Fin.inBlock <| Fin.then <| DC.region ?_
  refine Seq.pur rfl rfl (Az rfl rfl) ?_
  refine Seq.pur rfl rfl (BN rfl rfl rfl (by omega)) ?_
  refine Seq.pur rfl rfl (Aw rfl rfl) ?_
  refine Seq.nil ?_
  refine Fin.own (M := slc (.slice A19 l19 c19) 44 1 (rowsV (ms ++ [(.slice A17 l17 c17, l)])) :: rowsC 3 (ms ++ [(.slice A17 l17 c17, l)])) (fun w hw => ?_) ?_
  ·have e1 : rowsV (ms ++ [(.slice A17 l17 c17, l)]) = rowsV ms ++ [.slice A17 l17 c17] := by simp [rowsV]
   have e2 : rowsC 3 (ms ++ [(.slice A17 l17 c17, l)]) = rowsC 3 ms ++ [slc (.slice A17 l17 c17) 3 1 (ints l)] := by simp [rowsC]
   rw [e1, e2]
   have k3 : Own _ _ w (slc (.slice A17 l17 c17) 3 1 (ints l) :: _) := hw.pick (.cons 2 rfl (.cons 0 rfl (BJ _ _)))
   refine k3.perm ?_
   exact List.perm_append_comm (l₁ := slc (.slice A19 l19 c19) 44 1 (rowsV ms ++ [.slice A17 l17 c17]) :: rowsC 3 ms) (l₂ := [slc (.slice A17 l17 c17) 3 1 (ints l)])
  exact Fin.again ⟨i + 1, .slice A19 l19 c19, ms ++ [(.slice A17 l17 c17, l)]⟩ (by dsimp only; omega) ⟨by dsimp only; omega, by dsimp only; rw [List.map_append, hms, List.take_add_one, hl]; rfl⟩ ⟨rfl, rfl, rfl, trivial⟩ (Pick.all _)
 ·refine DC.exit <| Ad <| Ad <| Ag <| Fin.then <| DC.seq ?_
  have hie : i = rs.length := by simp at c3; omega
  refine Fd (i := 0) (v := v) rfl ?_
  rintro Av cv rfl hAv
  refine DC.region ?_
  refine Seq.pur rfl rfl (Az rfl rfl) ?_
  refine Seq.pur rfl rfl (Aw rfl rfl) ?_
  refine Seq.nil <| Fin.then <| DC.ret ?_
  refine Fin.weak (E' := [(2, _)]) ⟨rfl, trivial⟩ (Pick.all _) ?_
  refine Aj (.inl rfl) rfl rfl ?_
  exact ⟨_, _, _, ms, rfl, rfl, by rw [hms, hie, List.take_length]⟩
def LsB (w : World) (v : Value) (ls : List (List Int)) : Prop :=
 ∃ A cap, v = .slice A ls.length cap ∧ (∀ (i : Nat) l, ls[i]? = some l → ∃ ad lv, A = some ad ∧ w.cell? (ad.add i) = some lv ∧ SlB w lv l) ∧ ls.length ≤ cap ∧ cap ≤ 9223372036854775807 ∧ ls.length ≤ 17592186044416
theorem lsb_slc {w0 w : World} {K : List Nat} {F : List Chunk} {t t' : Nat} {v : Value} {rs : RL} (hw : Own w0 K w (slc v t' 1 (rowsV rs) :: (F ++ rowsC t rs))) (hb : rs.length ≤ 17592186044416) : LsB w v (rs.map Prod.snd) := by
 obtain ⟨A, len, cap, rfl, hl, hr, h1, h2⟩ := CE hw
 rw [rowsV_length, Nat.mul_one] at hl
 subst hl
 refine ⟨A, cap, by simp, fun i l hi => ?_, by simpa using h1, h2, by simpa using hb⟩
 rw [List.getElem?_map, Option.map_eq_some_iff] at hi
 obtain ⟨p, hp, rfl⟩ := hi
 have hg : (rowsV rs)[i]? = some p.1 := by simp [rowsV, hp]
 obtain ⟨ad, hA, hc⟩ := hr i p.1 hg
 exact ⟨ad, p.1, hA, hc, IR (F := slc (.slice A rs.length cap) t' 1 (rowsV rs) :: F) (by simpa using hw) (List.mem_of_getElem? hp)⟩
theorem ID {rs : List (List Int)} {v : Value} {w : World} (hl : LsB w v rs) (hn : rs.length ≤ 1000000000) (hs : ∀ l, l ∈ rs → l.length ≤ 1000000000) :
  Calls Tryz.prog 27 #[v] w (Ret w [] fun r M => ∃ g ms, r = .slice (some ⟨g, 0, none⟩) rs.length rs.length ∧ M = blk g 44 (rowsV ms).toArray :: rowsC 3 ms ∧ ∃ ps, RowsR MirR rs ps ∧ RowsR TurnR ps (ms.map Prod.snd)) := by
 obtain ⟨B, capb, rfl, hrb, hlb, hcb, hleb⟩ := hl
 refine At (K := []) (args := [_]) (L := []) Tryz.func27 rfl Tryz.ntmps27 rfl (Own.start _ _) ?_
 refine DC.seq <| DC.region ?_
 refine Seq.pur rfl rfl (Aw rfl rfl) ?_
 refine Seq.nil <| Fin.then <| DC.seq <| DC.region ?_
 refine Seq.pur rfl rfl (Az rfl rfl) ?_
 refine Seq.pur rfl rfl (BM rfl rfl Tryz.underlying59) ?_
 refine Seq.new rfl rfl (BI (k := rs.length) (cs := (rowsV [] ++ List.replicate rs.length (Value.slice none 0 0)).toArray) rfl rfl rfl Tryz.underlying59 Bn GT CH rfl (by omega) (by omega) (by rw [CV _ rfl]; simp [rowsV])) fun g8 => ?_
 refine Seq.pur rfl rfl (Aw rfl rfl) ?_
 refine Seq.nil <| Fin.then <| DC.seq <| DC.seq <| DC.region ?_
 refine Seq.pur rfl rfl (Az rfl rfl) ?_
 refine Seq.pur rfl rfl (BM rfl rfl Tryz.underlying59) ?_
 refine Seq.pur rfl rfl (Az rfl rfl) ?_
 refine Seq.nil <| Fin.then <| DC.block ?_
 refine DC.loop (ι := CnI) (fun q => q.i ≤ rs.length ∧ q.rs.map Prod.snd = (rs.take q.i).map List.reverse) (fun q => [(3, .slice (some ⟨g8, 0, none⟩) rs.length rs.length), (9, .slice B rs.length capb), (10, .int .i64 rs.length), (11, .int .i64 (q.i : Nat))])
  (fun q => blk g8 44 (rowsV q.rs ++ List.replicate (rs.length - q.i) (Value.slice none 0 0)).toArray :: rowsC 3 q.rs) (fun q => rs.length - q.i) ⟨0, []⟩ ⟨Nat.zero_le _, rfl⟩ ⟨rfl, rfl, rfl, rfl, trivial⟩ (Pick.all _) ?_
 rintro ⟨i, ms⟩ ⟨hi, hms⟩
 dsimp only at hi hms ⊢
 have hml : ms.length = i := by have := congrArg List.length hms; simp at this; omega
 refine DC.seq <| DC.region ?_
 refine Seq.pur rfl rfl (Cj rfl rfl rfl) ?_
 refine Seq.nil <| Fin.then <| DC.seq ?_
 refine DC.cond rfl (fun c3 => ?_) (fun c3 => ?_)
 ·have hlt : i < rs.length := by simpa using c3
  obtain ⟨l, hl⟩ : ∃ x, rs[i]? = some x := ⟨_, List.getElem?_eq_getElem hlt⟩
  obtain ⟨ad, lv, rfl, hc, hsl⟩ := hrb i l hl
  have hll := hs l (List.mem_of_getElem? hl)
  refine DC.skip <| Fin.then <| DC.seq <| DC.block <| DC.seq <| DC.region ?_
  refine Seq.pur rfl rfl (Az rfl rfl) ?_
  refine Seq.pur rfl rfl (Ai (ad' := ad.add i) rfl rfl rfl Tryz.underlying59 Bn (by omega) (by omega) (by rw [Int.toNat_natCast])) ?_
  refine Seq.val rfl rfl (Ah rfl rfl Bo (AE hc)) ?_
  refine Seq.pur rfl rfl (Aw rfl rfl) ?_
  refine Seq.pur rfl rfl (Aw rfl rfl) ?_
  refine Seq.nil <| Fin.then <| DC.seq <| DC.region ?_
  refine Seq.pur rfl rfl (Az rfl rfl) ?_
  refine Seq.pur rfl rfl (Az rfl rfl) ?_
  refine Seq.pur rfl rfl (Az rfl rfl) ?_
  refine Seq.rel rfl rfl (Aq en52 rfl rfl rfl (fun w hw => C8 (hsl.keep0 hw) (by omega))) ?_
  rintro v19 _ rfl
  simp only [List.cons_append, List.nil_append]
  refine Seq.slcs (i := 0) rfl (by omega) ?_
  rintro A19 c19 rfl _
  refine Seq.pur rfl rfl (Ai (ad' := ⟨g8, i, none⟩) rfl rfl rfl Tryz.underlying59 Bn (by omega) (by omega) (by rw [Int.toNat_natCast, AC])) ?_
  refine Seq.sto rfl rfl (AF (cs' := (rowsV (ms ++ [(.slice A19 l.length c19, l.reverse)]) ++ List.replicate (rs.length - (i + 1)) (Value.slice none 0 0)).toArray) rfl rfl rfl Bn rfl (by simp; omega) (by rw [show rs.length - i = rs.length - (i + 1) + 1 by omega, ← hml]; exact IU)) ?_
  refine Seq.nil <| Fin.then <| DC.region ?_
  refine Seq.pur rfl rfl (Az rfl rfl) ?_
  refine Seq.pur rfl rfl (Az rfl rfl) ?_
  refine Seq.pur rfl rfl (Ai (ad' := ⟨g8, i, none⟩) rfl rfl rfl Tryz.underlying59 Bn (by omega) (by omega) (by rw [Int.toNat_natCast, AC])) ?_
  refine Seq.val rfl rfl (Ah rfl rfl Bo (AU (v := .slice A19 l.length c19) (by simp [rowsV, ← hml]))) ?_
  refine Seq.gen rfl rfl (BA en53 rfl rfl rfl (Lc := [slc (.slice A19 l.length c19) 3 1 (ints l)]) (F := blk g8 44 (rowsV (ms ++ [(.slice A19 l.length c19, l.reverse)]) ++ List.replicate (rs.length - (i + 1)) (Value.slice none 0 0)).toArray :: rowsC 3 ms) (.refl _) (fun k hk => hk) (fun w' hw => Fj (hw.sub (L' := [slc (.slice A19 l.length c19) 3 1 (ints l)]) ((List.nil_sublist _).cons_cons _)).self)) ?_
  rintro v25 _ ⟨_, rfl, rfl⟩
  simp only [List.cons_append, List.nil_append]
  refine Seq.nil <| Fin.inBlock <| Fin.then <| DC.region ?_
  refine Seq.pur rfl rfl (BN rfl rfl rfl (by omega)) ?_
  refine Seq.pur rfl rfl (Az rfl rfl) ?_
  refine Seq.nil ?_
  refine Fin.own (M := blk g8 44 (rowsV (ms ++ [(.slice A19 l.length c19, l.reverse)]) ++ List.replicate (rs.length - (i + 1)) (Value.slice none 0 0)).toArray :: rowsC 3 (ms ++ [(.slice A19 l.length c19, l.reverse)])) (fun w hw => ?_) ?_
  ·have e3 : rowsC 3 (ms ++ [(.slice A19 l.length c19, l.reverse)]) = rowsC 3 ms ++ [slc (.slice A19 l.length c19) 3 1 (ints l.reverse)] := by simp [rowsC]
   rw [e3]
   refine hw.perm ?_
   exact List.perm_append_comm (l₁ := blk g8 44 (rowsV (ms ++ [(.slice A19 l.length c19, l.reverse)]) ++ List.replicate (rs.length - (i + 1)) (Value.slice none 0 0)).toArray :: rowsC 3 ms) (l₂ := [slc (.slice A19 l.length c19) 3 1 (ints l.reverse)])
  exact Fin.again ⟨i + 1, ms ++ [(.slice A19 l.length c19, l.reverse)]⟩ (by dsimp only; omega) ⟨by dsimp only; omega, by dsimp only; rw [List.map_append, hms, List.take_add_one, hl, List.map_append]; rfl⟩ ⟨rfl, rfl, rfl, rfl, trivial⟩ (Pick.all _)
 ·refine DC.exit <| Ad <| Ad <| Ag <| Fin.then <| DC.seq ?_
  have hie : i = rs.length := by simp at c3; omega
  rw [hie, List.take_length] at hms
  have hml' : ms.length = rs.length := by omega
  have hmm : ∀ l, l ∈ ms.map Prod.snd → l.length ≤ 1000000000 := fun l hl => by
   rw [hms] at hl
   obtain ⟨l', hl', rfl⟩ := List.mem_map.1 hl
   rw [List.length_reverse]; exact hs l' hl'
  rw [hie, Nat.sub_self, EB]
  refine DC.region ?_
  refine Seq.pur rfl rfl (Az rfl rfl) ?_
  refine Seq.rel rfl rfl (Aq en50 rfl rfl rfl (fun w hw => FO (rs := ms.map Prod.snd) (EV hw hml' (by omega) (fun p hp => by have := hmm _ (List.mem_map_of_mem (f := Prod.snd) hp); omega)) (by rw [List.length_map]; omega) hmm)) ?_
  rintro _ _ ⟨g28, ms', rfl, rfl, hT⟩
  refine Seq.pur rfl rfl (Aw rfl rfl) ?_
  refine Seq.nil <| Fin.then <| DC.ret ?_
  refine Fin.own (M := blk g28 44 (rowsV ms').toArray :: rowsC 3 ms') (fun w hw => hw.sub (List.sublist_append_left _ _)) ?_
  refine Fin.weak (E' := [(2, .slice (some ⟨g28, 0, none⟩) rs.length rs.length)]) (L' := blk g28 44 (rowsV ms').toArray :: rowsC 3 ms') ⟨by rw [List.length_map, hml']; rfl, trivial⟩ (Pick.all _) ?_
  refine Aj (.inl rfl) rfl rfl ?_
  refine ⟨g28, ms', rfl, rfl, ms.map Prod.snd, ?_, hT⟩
  rw [hms]
  refine ⟨by simp, fun v l m h1 h2 => ?_⟩
  rw [List.getElem?_map, h1] at h2
  exact (Option.some.inj h2).symm
structure ArI where
 j : Nat
 v : Value
theorem rows_at1 {rs : RL} {m : Nat} {v : Value} : (rowsV rs ++ v :: List.replicate m (Value.slice none 0 0)).toArray[rs.length]? = some v := by simp [rowsV]
theorem LT {rs : RL} {m : Nat} {v v' : Value} : (rowsV rs ++ v :: List.replicate m (Value.slice none 0 0)).toArray.setIfInBounds rs.length v' = (rowsV rs ++ v' :: List.replicate m (Value.slice none 0 0)).toArray := by
 apply Array.ext'
 rw [Array.toList_setIfInBounds, List.set_append_right _ _ (by simp [rowsV])]
 simp [rowsV]
theorem tw_at {es : List Pr} {h : Int} (h0 : 0 ≤ h) (h1 : h < es.length * 2) : 0 ≤ tw h ∧ tw h < es.length * 2 ∧ (frs es)[(tw h).toNat]? = some (toV es h) := by
 have h2 : 0 ≤ tw h ∧ tw h < es.length * 2 := by unfold tw; split <;> omega
 refine ⟨h2.1, h2.2, ?_⟩
 unfold toV fromV
 rw [if_pos h0, if_pos h2.1]
 obtain ⟨x, hx⟩ : ∃ x, (frs es)[(tw h).toNat]? = some x := ⟨_, List.getElem?_eq_getElem (by rw [Ba]; omega)⟩
 rw [hx]; rfl
theorem IH {N : Int} {es : List Pr} {rs : List (List Int)} {va v : Value} {w : World} (hg : PrV w va es) (hl : LsV w v rs) (hn : rs.length ≤ 1000000000) :
  Calls Tryz.prog 49 #[.agg #[.int .i64 N, va], v] w (Ret w [] fun r M => ∃ Ar l c e ck ls, r = .tuple #[.slice Ar l c, .int .i64 e] ∧ (e = 0 ↔ RotL N es rs) ∧ M = [ck] ∧ RowC ck (.slice Ar l c) ls ∧ ls.length ≤ 1000000000 ∧ (∀ l, l ∈ ls → l.length ≤ 2097152) ∧ (RotL N es rs → ls = arou es rs)) := by
 have hg0 := hg
 have hl0 := hl
 obtain ⟨A, cap, rfl, hr, hlc, hcm, hle⟩ := hg
 obtain ⟨B, capb, rfl, hrb, hlb, hcb, hleb⟩ := hl
 refine At (K := []) (args := [_, _]) (L := []) Tryz.func49 rfl Tryz.ntmps49 rfl (Own.start _ _) ?_
 refine DC.seq <| DC.region ?_
 refine Seq.new rfl rfl (AS rfl rfl rfl) fun g2 => ?_
 refine Seq.pur rfl rfl (Aw rfl rfl) ?_
 refine Seq.pur rfl rfl (Aw rfl rfl) ?_
 refine Seq.nil <| Fin.then <| DC.seq <| DC.seq <| DC.region ?_
 refine Seq.val rfl rfl (Ay (vs := [_, _]) rfl rfl Bj Bc rfl (Ak rfl)) ?_
 refine Seq.pur rfl rfl (Az rfl rfl) ?_
 refine Seq.rel0 rfl rfl (Aq en87 rfl rfl rfl (fun w hw => FN (hg0.keep0 hw) (hl0.keep0 hw))) ?_
 rintro _ ⟨x17, e17, rfl, he17⟩
 refine Seq.pur rfl rfl (Az rfl rfl) ?_
 refine Seq.pur rfl rfl (Bt rfl rfl rfl) ?_
 refine Seq.pur rfl rfl (Bt rfl rfl rfl) ?_
 refine Seq.pur rfl rfl (Aw rfl rfl) ?_
 refine Seq.pur rfl rfl (Aw rfl rfl) ?_
 refine Seq.nil <| Fin.then <| DC.seq <| DC.region ?_
 refine Seq.pur rfl rfl (Az rfl rfl) ?_
 refine Seq.pur rfl rfl (BS rfl rfl rfl) ?_
 refine Seq.nil <| Fin.then ?_
 refine DC.cond rfl (fun c2 => ?_) (fun c2 => ?_)
 ·refine DC.seq <| DC.region ?_
  refine Seq.pur rfl rfl (Az rfl rfl) ?_
  refine Seq.pur rfl rfl (Aw rfl rfl) ?_
  refine Seq.pur rfl rfl (Aw rfl rfl) ?_
  refine Seq.nil <| Fin.then <| DC.ret <| Aa ?_
  refine Fin.own (M := [pk []]) (fun w hw => Fs (by simpa using hw.sub (List.nil_sublist _))) ?_
  refine Fin.weak (E' := [(4, .slice none 0 0), (5, .int .i64 e17)]) ⟨rfl, rfl, trivial⟩ (Pick.all _) ?_
  refine AJ (.inl rfl) rfl rfl rfl ?_
  refine ⟨none, 0, 0, e17, _, [], rfl, he17, rfl, fun w0 K w L i hw hi => ⟨none, 0, rfl, fun i l hi => by simp at hi, Nat.le_refl _, by omega, by simp⟩, by simp, by simp, fun h => ?_⟩
  have := he17.2 h
  simp at c2; omega
 ·have hok : RotL N es rs := he17.1 (by simpa using c2)
  have hfew := hok.1.few
  obtain ⟨n, rfl⟩ : ∃ n : Nat, N = n := ⟨N.toNat, by have := hok.1.lo; omega⟩
  refine DC.skip <| Fin.then <| DC.seq <| DC.region ?_
  refine Seq.val rfl rfl (Ay (vs := [_, _]) rfl rfl Bj Bc rfl (Ak rfl)) ?_
  refine Seq.rel rfl rfl (Aq en88 rfl rfl rfl (fun w hw => E8 (hg0.keep0 hw) hfew)) ?_
  rintro v24 _ rfl
  refine Seq.pur rfl rfl (Aw rfl rfl) ?_
  refine Seq.nil <| Fin.then <| DC.seq ?_
  simp only [List.cons_append, List.nil_append]
  refine DC.slcs (i := 0) (v := v24) rfl (by rw [Ba]; omega) ?_
  rintro Af cf rfl hAf
  rw [Ba]
  refine DC.region ?_
  refine Seq.pur rfl rfl (Az rfl rfl) ?_
  refine Seq.pur rfl rfl (BM rfl rfl Tryz.underlying59) ?_
  refine Seq.new rfl rfl (BI (k := rs.length) (cs := (rowsV [] ++ List.replicate rs.length (Value.slice none 0 0)).toArray) rfl rfl rfl Tryz.underlying25 Bn GT CH rfl (by omega) (by omega) (by rw [CV _ rfl]; simp [rowsV])) fun g27 => ?_
  refine Seq.pur rfl rfl (Aw rfl rfl) ?_
  refine Seq.nil <| Fin.then <| DC.seq <| DC.seq <| DC.region ?_
  refine Seq.pur rfl rfl (Az rfl rfl) ?_
  refine Seq.pur rfl rfl (BM rfl rfl Tryz.underlying59) ?_
  refine Seq.pur rfl rfl (Az rfl rfl) ?_
  refine Seq.nil <| Fin.then <| DC.block ?_
  refine DC.loop (ι := CnI) (fun q => q.i ≤ rs.length ∧ q.rs.map Prod.snd = arou es (rs.take q.i)) (fun q => [(8, .slice Af (es.length * 2) cf), (9, .slice (some ⟨g27, 0, none⟩) rs.length rs.length), (28, .slice B rs.length capb), (29, .int .i64 rs.length), (30, .int .i64 (q.i : Nat))])
   (fun q => blk g27 44 (rowsV q.rs ++ List.replicate (rs.length - q.i) (Value.slice none 0 0)).toArray :: slc (.slice Af (es.length * 2) cf) 3 1 (ints (frs es)) :: rowsC 3 q.rs) (fun q => rs.length - q.i) ⟨0, []⟩ ⟨Nat.zero_le _, rfl⟩ ⟨rfl, rfl, rfl, rfl, rfl, trivial⟩ (.cons 0 rfl (.cons 0 rfl .nil)) ?_
  rintro ⟨i, ms⟩ ⟨hi, hms⟩
  dsimp only at hi hms ⊢
  have hml : ms.length = i := by have := congrArg List.length hms; simp [arou] at this; omega
  refine DC.seq <| DC.region ?_
  refine Seq.pur rfl rfl (Cj rfl rfl rfl) ?_
  refine Seq.nil <| Fin.then <| DC.seq ?_
  refine DC.cond rfl (fun c7 => ?_) (fun c7 => ?_)
  ·have hlt : i < rs.length := by simpa using c7
   obtain ⟨l, hl⟩ : ∃ x, rs[i]? = some x := ⟨_, List.getElem?_eq_getElem hlt⟩
   obtain ⟨ad, lv, rfl, hc, hsl⟩ := hrb i l hl
   obtain ⟨Ax, cx, rfl, hrx, _, _, hlx⟩ := hsl
   have hll := K4 hok hl
   have hhi := hok.1.hi
   refine DC.skip <| Fin.then <| DC.seq <| DC.block <| DC.seq <| DC.region ?_
   refine Seq.pur rfl rfl (Az rfl rfl) ?_
   refine Seq.pur rfl rfl (Ai (ad' := ad.add i) rfl rfl rfl Tryz.underlying59 Bn (by omega) (by omega) (by rw [Int.toNat_natCast])) ?_
   refine Seq.val rfl rfl (Ah rfl rfl Bo (AE hc)) ?_
   refine Seq.pur rfl rfl (Aw rfl rfl) ?_
   refine Seq.pur rfl rfl (Aw rfl rfl) ?_
   refine Seq.nil <| Fin.then <| DC.seq <| DC.region ?_
   refine Seq.pur rfl rfl (Az rfl rfl) ?_
   refine Seq.pur rfl rfl (BM rfl rfl Tryz.underlying44) ?_
   refine Seq.pur rfl rfl (Az rfl rfl) ?_
   refine Seq.nil <| Fin.then <| DC.block ?_
   refine DC.own (fun w hw => Bm (t := 3) (m := 1) hw) ?_
   refine DC.loop (ι := ArI) (fun q => q.j ≤ l.length) (fun q => [(8, .slice Af (es.length * 2) cf), (9, .slice (some ⟨g27, 0, none⟩) rs.length rs.length), (10, .int .i64 (i : Nat)), (28, .slice (some ad) rs.length capb), (29, .int .i64 rs.length), (30, .int .i64 (i : Nat)), (35, .slice Ax l.length cx), (36, .int .i64 l.length), (37, .int .i64 (q.j : Nat))])
    (fun q => slc q.v 3 1 (ints ((l.take q.j).map (toV es))) :: blk g27 44 (rowsV ms ++ q.v :: List.replicate (rs.length - (i + 1)) (Value.slice none 0 0)).toArray :: slc (.slice Af (es.length * 2) cf) 3 1 (ints (frs es)) :: rowsC 3 ms) (fun q => l.length - q.j) ⟨0, .slice none 0 0⟩ (Nat.zero_le _) ⟨rfl, rfl, rfl, rfl, rfl, rfl, rfl, rfl, rfl, trivial⟩ (.cons 0 rfl (.cons' 0 rfl (by rw [show rs.length - i = rs.length - (i + 1) + 1 by omega]; rfl) (Pick.all _))) ?_
   rintro ⟨j, vv⟩ hj
   dsimp only at hj ⊢
   refine DC.slcs (i := 0) (v := vv) rfl (by simp; omega) ?_
   rintro Av cv rfl _
   refine DC.seq <| DC.region ?_
   refine Seq.pur rfl rfl (Cj rfl rfl rfl) ?_
   refine Seq.nil <| Fin.then <| DC.seq ?_
   refine DC.cond rfl (fun c10 => ?_) (fun c10 => ?_)
   ·have hjl : j < l.length := by simpa using c10
    obtain ⟨h, hh⟩ : ∃ x, l[j]? = some x := ⟨_, List.getElem?_eq_getElem hjl⟩
    obtain ⟨adx, rfl, ch⟩ := hrx.int hh
    obtain ⟨h0, h1, _⟩ := (hok.2.2 i l hl).1 h (List.mem_of_getElem? hh)
    obtain ⟨t0, t1, ht⟩ := tw_at h0 h1
    obtain ⟨adf, rfl⟩ := hAf (List.ne_nil_of_length_pos (by rw [Ba]; omega))
    refine DC.skip <| Fin.then <| DC.seq <| DC.block <| DC.seq <| DC.region ?_
    refine Seq.pur rfl rfl (Ai (ad' := adx.add j) rfl rfl rfl Tryz.underlying44 AN (by omega) (by omega) (by rw [Int.toNat_natCast])) ?_
    refine Seq.val rfl rfl (Ah rfl rfl AO (AE ch)) ?_
    refine Seq.pur rfl rfl (Aw rfl rfl) ?_
    refine Seq.nil <| Fin.then ?_
    refine AG (cl := [.q, .q, .q, .q, .q, .v, .q, .q, .q, .q, .v, .n, .g, .q, .g]) (A := [0, 0, 0, 0, 12, 28, 0, 0, 128, 448, 960, 1984, 4092, 8191, 16383]) (order := [0, 1, 2, 3, 4, 5, 6, 7, 8, 9, 10, 11, 12, 13, 14]) [] mixed (by kernel_rfl) (fun w hw => hw.pick .nil) ?_
    refine Flow.pur rfl rfl rfl (Az rfl rfl) ?_
    refine Flow.pur rfl rfl rfl (Az rfl rfl) ?_
    refine Flow.pur rfl rfl rfl (Az rfl rfl) ?_
    refine Flow.pur rfl rfl rfl (Az rfl rfl) ?_
    refine Flow.pur rfl rfl rfl (Ai (ad' := ⟨g27, i, none⟩) rfl rfl rfl Tryz.underlying25 Bn (by omega) (by omega) (by rw [Int.toNat_natCast, AC])) ?_
    refine Am rfl rfl rfl rfl (Ah rfl rfl Bo (AU (by rw [← hml]; exact rows_at1))) ?_
    refine Flow.pur rfl rfl rfl (Az rfl rfl) ?_
    refine Flow.pur rfl rfl rfl (Az rfl rfl) ?_
    refine Flow.pur rfl rfl rfl (Gu rfl rfl rfl (by omega)) ?_
    refine Flow.pur rfl rfl rfl (Ai (ad' := adf.add (tw h).toNat) rfl rfl rfl Tryz.underlying44 AN t0 t1 rfl) ?_
    refine Am rfl rfl rfl rfl (Ah rfl rfl AO (BE (i := 2) rfl ht (by rw [Ba]; omega))) ?_
    refine AY rfl rfl rfl rfl (AP (cs := #[_]) rfl rfl Tryz.underlying44 AN B6 rfl (by decide) (by decide) rfl rfl) fun g52 => ?_
    refine Cu (V := blk g52 3 #[.int .i64 (toV es h)] :: slc (.slice Av _ cv) 3 1 (ints ((l.take j).map (toV es))) :: blk g27 44 _ :: slc _ 3 1 (ints (frs es)) :: rowsC 3 ms) rfl rfl rfl rfl rfl (Gen.shape (AR (F := blk g52 3 #[.int .i64 (toV es h)] :: blk g27 44 _ :: slc _ 3 1 (ints (frs es)) :: rowsC 3 ms) (vs := ints ((l.take j).map (toV es))) (k := 1) (news := [.int .i64 (toV es h)]) rfl rfl rfl Tryz.underlying44 AN DP B6 rfl (by decide) (by decide)
     (fun w hw => hw.pick (.cons 1 rfl (Pick.all _))) (.inl ⟨_, _, rfl, Ak rfl⟩) rfl (Br [_] []) (by simp; omega))) (fun v L' hC w hw => hw.pick (.nil)) ?_
    rintro _ _ ⟨⟨A53, l53, c53, rfl⟩, rfl⟩
    refine Flow.pur rfl rfl rfl (Ai (ad' := ⟨g27, i, none⟩) rfl rfl rfl Tryz.underlying25 Bn (by omega) (by omega) (by rw [Int.toNat_natCast, AC])) ?_
    refine AL rfl rfl rfl rfl (AF (cs' := (rowsV ms ++ (.slice A53 l53 c53) :: List.replicate (rs.length - (i + 1)) (Value.slice none 0 0)).toArray) rfl rfl rfl Bn rfl (by simp; omega) (by rw [← hml]; exact LT)) (fun w hw => hw.pick (.nil)) ?_
    refine Flow.end rfl ?_
    simp only [List.map_cons, List.map_nil, List.nil_append, List.cons_append, List.append_nil]
    refine Fin.inBlock <| Fin.then <| DC.region ?_
    refine Seq.pur rfl rfl (BN rfl rfl rfl (by omega)) ?_
    refine Seq.pur rfl rfl (Az rfl rfl) ?_
    refine Seq.nil ?_
    exact Fin.again ⟨j + 1, .slice A53 l53 c53⟩ (by dsimp only; omega) (by dsimp only; omega) ⟨rfl, rfl, rfl, rfl, rfl, rfl, rfl, rfl, rfl, trivial⟩ (.cons' 0 rfl (by dsimp only; rw [List.take_add_one, hh, List.map_append, A4]; rfl) (BJ _ _))
   ·refine DC.exit <| Ad <| Ad <| Ag <| Fin.inBlock <| Fin.then <| DC.region ?_
    refine Seq.pur rfl rfl (BN rfl rfl rfl (by omega)) ?_
    refine Seq.pur rfl rfl (Az rfl rfl) ?_
    refine Seq.nil ?_
    have hje : j = l.length := by simp at c10; omega
    rw [hje, List.take_length]
    refine Fin.own (M := blk g27 44 (rowsV (ms ++ [(.slice Av (l.map (toV es)).length cv, l.map (toV es))]) ++ List.replicate (rs.length - (i + 1)) (Value.slice none 0 0)).toArray :: slc (.slice Af (es.length * 2) cf) 3 1 (ints (frs es)) :: rowsC 3 (ms ++ [(.slice Av (l.map (toV es)).length cv, l.map (toV es))])) (fun w hw => ?_) ?_
    ·have e1 : rowsV (ms ++ [(.slice Av (l.map (toV es)).length cv, l.map (toV es))]) ++ List.replicate (rs.length - (i + 1)) (Value.slice none 0 0) = rowsV ms ++ .slice Av (l.map (toV es)).length cv :: List.replicate (rs.length - (i + 1)) (Value.slice none 0 0) := by simp [rowsV]
     have e3 : rowsC 3 (ms ++ [(.slice Av (l.map (toV es)).length cv, l.map (toV es))]) = rowsC 3 ms ++ [slc (.slice Av (l.map (toV es)).length cv) 3 1 (ints (l.map (toV es)))] := by simp [rowsC]
     rw [e1, e3]
     refine hw.perm ?_
     exact List.perm_append_comm (l₁ := blk g27 44 (rowsV ms ++ .slice Av (l.map (toV es)).length cv :: List.replicate (rs.length - (i + 1)) (Value.slice none 0 0)).toArray :: slc (.slice Af (es.length * 2) cf) 3 1 (ints (frs es)) :: rowsC 3 ms) (l₂ := [slc (.slice Av (l.map (toV es)).length cv) 3 1 (ints (l.map (toV es)))])
    exact Fin.again ⟨i + 1, ms ++ [(.slice Av (l.map (toV es)).length cv, l.map (toV es))]⟩ (by dsimp only; omega) ⟨by dsimp only; omega, by dsimp only; rw [List.map_append, hms, List.take_add_one, hl]; simp [arou]⟩ ⟨rfl, rfl, rfl, rfl, rfl, trivial⟩ (Pick.all _)
  ·refine DC.exit <| Ad <| Ad <| Ag <| Fin.then <| DC.seq <| DC.region ?_
   refine Seq.pur rfl rfl (Az rfl rfl) ?_
   refine Seq.pur rfl rfl (Aw rfl rfl) ?_
   refine Seq.pur rfl rfl (Aw rfl rfl) ?_
   refine Seq.nil <| Fin.then <| DC.ret ?_
   have hie : i = rs.length := by simp at c7; omega
   rw [hie, List.take_length] at hms
   have hml' : ms.length = rs.length := by omega
   have hla : ∀ l, l ∈ ms.map Prod.snd → l.length ≤ 1048576 := fun l hl => by
    rw [hms] at hl
    obtain ⟨l', hl', rfl⟩ := List.mem_map.1 hl
    rw [List.length_map]; exact row_lenM hok hl'
   refine Fin.own (M := [pk (blk g27 44 (rowsV ms).toArray :: rowsC 3 ms)]) (fun w hw => Fs ?_) ?_
   ·rw [hie, Nat.sub_self, EB] at hw
    simpa using hw.sub (.cons_cons _ (.cons _ (List.Sublist.refl _)))
   refine Fin.weak (E' := [(4, .slice (some ⟨g27, 0, none⟩) rs.length rs.length), (5, .int .i64 0)]) ⟨rfl, rfl, trivial⟩ (Pick.all _) ?_
   refine AJ (.inl rfl) rfl rfl rfl ?_
   refine ⟨_, _, _, 0, _, ms.map Prod.snd, rfl, by simp [hok], rfl, fun w0 K w L i hw hi => ?_, by rw [List.length_map]; omega, fun l hl => by have := hla l hl; omega, fun _ => hms⟩
   exact EV (by simpa using (Cr i hi hw).sub (List.sublist_append_left _ _)) hml' (by omega) (fun p hp => by have := hla _ (List.mem_map_of_mem (f := Prod.snd) hp); omega)
/-- A piece of memory that holds a certificate's lists. -/
def CertC (c : Chunk) (v u : Value) (ls : List (List Int)) (cs : List Pr) : Prop := ∀ (w0 : World) (K : List Nat) (w : World) (L : List Chunk) (i : Nat), Own w0 K w L → L[i]? = some c → LsV w v ls ∧ PrV w u cs
theorem Ke {pl : Bool} {ls : List (List Int)} {cs : List Pr} {v u : Value} {w : World} (hv : LsV w v ls) (hu : PrV w u cs) (hn : ls.length ≤ 1000000000) (hs : ∀ l, l ∈ ls → l.length ≤ 1000000000) :
  Calls Tryz.prog 12 #[.agg #[.bool pl, v, u]] w (Ret w [] fun r L => ∃ Av lv cv Au lu cu c, r = .agg #[.bool pl, .slice Av lv cv, .slice Au lu cu] ∧ L = [c] ∧ CertC c (.slice Av lv cv) (.slice Au lu cu) ls cs) := by
 have hcl : cs.length ≤ 8796093021952 := by obtain ⟨_, _, _, _, _, _, h⟩ := hu; exact h
 refine Calls.mono (G2 hv hu hn hs) ?_
 rintro e w' ⟨r, L', rfl, ⟨Av, lv, cv, Au, lu, cu, rs, rfl, hrs, rfl⟩, hO⟩
 refine ⟨_, [pk (slc (.slice Av lv cv) 44 1 (rowsV rs) :: slc (.slice Au lu cu) 43 2 (prs cs) :: rowsC 3 rs)], rfl, ⟨Av, lv, cv, Au, lu, cu, _, rfl, rfl, ?_⟩, Fs (by simpa using hO)⟩
 intro w0 K w L i hw hi
 have h1 := Cr i hi hw
 have hlen : rs.length = ls.length := by rw [← hrs]; simp
 refine ⟨?_, Ci h1 1 rfl hcl⟩
 have h2 := h1.sub (List.sublist_append_left _ _)
 have := H7 (F := [slc (.slice Au lu cu) 43 2 (prs cs)]) (by simpa using h2) (by omega) (fun p hp => by
  have := hs p.2 (by rw [← hrs]; exact List.mem_map_of_mem hp)
  omega)
 rw [hrs] at this; exact this
theorem CS {N : Int} {es : List Pr} {va : Value} {w : World} (hg : PrV w va es) :
  Calls Tryz.prog 11 #[.agg #[.int .i64 N, va]] w (Ret w [] fun r L => ∃ A c, r = .agg #[.int .i64 N, .slice A es.length c] ∧ L = [slc (.slice A es.length c) 43 2 (prs es)]) := by
 have hl : es.length ≤ 8796093021952 := by obtain ⟨_, _, _, _, _, _, h⟩ := hg; exact h
 refine Calls.mono (HY hg) ?_
 rintro e w' ⟨r, L', rfl, ⟨A, l, c, rfl, rfl⟩, hO⟩
 obtain ⟨A', c', he, _⟩ := Ci hO 0 rfl hl
 cases he
 exact ⟨_, _, rfl, ⟨_, _, rfl, rfl⟩, hO⟩
/-- A piece of memory that holds lists of numbers, their places written out. -/
def RowB (c : Chunk) (v : Value) (ls : List (List Int)) : Prop := ∀ (w0 : World) (K : List Nat) (w : World) (L : List Chunk) (i : Nat), Own w0 K w L → L[i]? = some c → LsB w v ls
theorem Gp {rs : List (List Int)} {v : Value} {w : World} (hl : LsV w v rs) (hn : rs.length ≤ 1000000000) (hs : ∀ l, l ∈ rs → l.length ≤ 1000000000) :
  Calls Tryz.prog 28 #[v] w (Ret w [] fun r M => ∃ c, M = [c] ∧ RowC c r rs ∧ RowB c r rs) := by
 refine Calls.mono (Et hl hn hs) ?_
 rintro e w' ⟨r, L', rfl, ⟨A, l, c, ms, rfl, rfl, hms⟩, hO⟩
 have hml : ms.length = rs.length := by rw [← hms]; simp
 refine ⟨_, [pk (slc (.slice A l c) 44 1 (rowsV ms) :: rowsC 3 ms)], rfl, ⟨_, rfl, fun w0 K w L i hw hi => ?_, fun w0 K w L i hw hi => ?_⟩, Fs (by simpa using hO)⟩
 ·rw [← hms]
  exact H7 (F := []) (by simpa using (Cr i hi hw).sub (List.sublist_append_left _ _)) (by omega) (fun p hp => by have := hs p.2 (by rw [← hms]; exact List.mem_map_of_mem hp); omega)
 ·rw [← hms]
  exact lsb_slc (F := []) (by simpa using (Cr i hi hw).sub (List.sublist_append_left _ _)) (by omega)
theorem Ds {rs ms : List (List Int)} {k : Nat} (h : RowsR (fun l m => m.Perm l) rs ms) (hs : ∀ l, l ∈ rs → l.length ≤ k) : ∀ l, l ∈ ms → l.length ≤ k := by
 intro m hm
 obtain ⟨v, hv⟩ := List.mem_iff_getElem?.1 hm
 obtain ⟨l, hl⟩ : ∃ l, rs[v]? = some l := ⟨_, List.getElem?_eq_getElem (by rw [← h.1]; exact (List.getElem?_eq_some_iff.1 hv).1)⟩
 rw [(h.2 v l m hl hv).length_eq]
 exact hs l (List.mem_of_getElem? hl)
theorem Fv {rs ps ms : List (List Int)} (h1 : RowsR MirR rs ps) (h2 : RowsR TurnR ps ms) : RowsR (fun l m => m.Perm l) rs ms :=
 h1.comp h2 fun l m p a b => (Dp b).trans (by rw [show m = l.reverse from a]; exact List.reverse_perm l)
theorem Canon_pk {rs : List (List Int)} {v : Value} {w : World} (hl : LsV w v rs) (hn : rs.length ≤ 1000000000) (hs : ∀ l, l ∈ rs → l.length ≤ 1000000000) :
  Calls Tryz.prog 50 #[v] w (Ret w [] fun r M => ∃ c ms, M = [c] ∧ RowC c r ms ∧ RowsR TurnR rs ms) := by
 refine Calls.mono (FO hl hn hs) ?_
 rintro e w' ⟨r, L', rfl, ⟨g, ms, rfl, rfl, hT⟩, hO⟩
 have hml : ms.length = rs.length := by have := hT.1; rwa [List.length_map] at this
 have hsh := Ds (hT.mono fun l m h => Dp h) hs
 refine ⟨_, [pk (blk g 44 (rowsV ms).toArray :: rowsC 3 ms)], rfl, ⟨_, ms.map Prod.snd, rfl, fun w0 K w L i hw hi => ?_, hT⟩, Fs (by simpa using hO)⟩
 exact EV (by simpa using (Cr i hi hw).sub (List.sublist_append_left _ _)) hml (by omega) (fun p hp => by have := hsh _ (List.mem_map_of_mem (f := Prod.snd) hp); omega)
theorem Mirror_pk {rs : List (List Int)} {v : Value} {w : World} (hl : LsB w v rs) (hn : rs.length ≤ 1000000000) (hs : ∀ l, l ∈ rs → l.length ≤ 1000000000) :
  Calls Tryz.prog 27 #[v] w (Ret w [] fun r M => ∃ c ms, M = [c] ∧ RowC c r ms ∧ ∃ ps, RowsR MirR rs ps ∧ RowsR TurnR ps ms) := by
 refine Calls.mono (ID hl hn hs) ?_
 rintro e w' ⟨r, L', rfl, ⟨g, ms, rfl, rfl, ps, hM, hT⟩, hO⟩
 have hp := Fv hM hT
 have hml : ms.length = rs.length := by have := hp.1; rwa [List.length_map] at this
 have hsh := Ds hp hs
 refine ⟨_, [pk (blk g 44 (rowsV ms).toArray :: rowsC 3 ms)], rfl, ⟨_, ms.map Prod.snd, rfl, fun w0 K w L i hw hi => ?_, ps, hM, hT⟩, Fs (by simpa using hO)⟩
 exact EV (by simpa using (Cr i hi hw).sub (List.sublist_append_left _ _)) hml (by omega) (fun p hp => by have := hsh _ (List.mem_map_of_mem (f := Prod.snd) hp); omega)
theorem rotL_iff {N : Int} {es : List Pr} {rs ms : List (List Int)} (h : RowsR (fun l m => m.Perm l) rs ms) : RotL N es rs ↔ RotL N es ms := by
 constructor
 ·intro hok
  obtain ⟨n, rfl⟩ : ∃ n : Nat, N = n := ⟨N.toNat, by have := hok.1.lo; omega⟩
  exact Cf hok h
 ·intro hok
  obtain ⟨n, rfl⟩ : ∃ n : Nat, N = n := ⟨N.toNat, by have := hok.1.lo; omega⟩
  exact Cf hok ((LS h).mono fun l m p => p.symm)
theorem CF {N : Int} {es : List Pr} {rs : List (List Int)} {va v : Value} {w : World} (hg : PrV w va es) (hl : LsV w v rs) (hn : rs.length ≤ 1000000000) (hs : ∀ l, l ∈ rs → l.length ≤ 1000000000) :
  Calls Tryz.prog 25 #[.agg #[.int .i64 N, va], v] w (Ret w [] fun r M => ∃ A l c b ck ls, r = .tuple #[.agg #[.bool true, .slice A l c, .slice none 0 0], .bool b] ∧ (b = true ↔ RotL N es rs) ∧ M = [ck] ∧ RowC ck (.slice A l c) ls ∧ ls.length ≤ 1000000000 ∧ (∀ l, l ∈ ls → l.length ≤ 2097152) ∧ (RotL N es rs → ∃ ms, RowsR TurnR rs ms ∧ ls = arou es ms)) := by
 have hel : es.length ≤ 8796093021952 := by obtain ⟨_, _, _, _, _, _, h⟩ := hg; exact h
 refine At (K := []) (args := [_, _]) (L := []) Tryz.func25 rfl Tryz.ntmps25 rfl (Own.start _ _) ?_
 have hga := hg
 obtain ⟨A, cap, rfl, _⟩ := hga
 refine DC.seq <| DC.region ?_
 refine Seq.new rfl rfl (AS rfl rfl rfl) fun g2 => ?_
 refine Seq.new rfl rfl (AH rfl LK rfl) fun g4 => ?_
 refine Seq.pur rfl rfl (Aw rfl rfl) ?_
 refine Seq.nil <| Fin.then <| DC.seq <| DC.region ?_
 refine Seq.val rfl rfl (Ay (vs := [_, _]) rfl rfl Bj Bc rfl (Ak rfl)) ?_
 refine Seq.rel rfl rfl (Aq en11 rfl rfl rfl (fun w hw => CS (hg.keep0 hw))) ?_
 rintro _ _ ⟨A10, c10, rfl, rfl⟩
 refine Seq.pur rfl rfl (Az rfl rfl) ?_
 refine Seq.rel rfl rfl (Aq en28 rfl rfl rfl (fun w hw => Gp (hl.keep0 hw) hn hs)) ?_
 rintro v12 _ ⟨ck12, rfl, h12, _⟩
 refine Seq.rel rfl rfl (Aq en50 rfl rfl rfl (fun w hw => Canon_pk (h12 _ _ _ _ 0 hw rfl) hn hs)) ?_
 rintro v13 _ ⟨ck13, ms, rfl, h13, hT⟩
 refine Seq.rel rfl rfl (Aq en49 rfl rfl rfl (fun w hw => IH (Ci hw 2 rfl hel) (h13 _ _ _ _ 0 hw rfl) (by rw [hT.1]; exact hn))) ?_
 rintro _ _ ⟨Ar, l14, c14, e14, ck14, ls, rfl, he14, rfl, h14, hll, hls, har⟩
 refine Seq.pur rfl rfl (Az rfl rfl) ?_
 refine Seq.pur rfl rfl (Bt rfl rfl rfl) ?_
 refine Seq.pur rfl rfl (Bt rfl rfl rfl) ?_
 refine Seq.pur rfl rfl (Aw rfl rfl) ?_
 refine Seq.pur rfl rfl (Aw rfl rfl) ?_
 refine Seq.nil <| Fin.then <| DC.seq ?_
 simp only [List.cons_append, List.nil_append]
 refine DC.region ?_
 refine Seq.pur rfl rfl (Az rfl rfl) ?_
 refine Seq.pur rfl rfl (AD (cs := #[_, _, _]) rfl rfl bs27 rfl rfl) ?_
 refine Seq.pur rfl rfl (Az rfl rfl) ?_
 refine Seq.pur rfl rfl (AX rfl rfl rfl) ?_
 refine Seq.sto rfl rfl (AA (cs' := #[_, _, _]) rfl rfl rfl De rfl (Nat.le_of_ble_eq_true rfl) rfl) ?_
 refine Seq.pur rfl rfl (Aw rfl rfl) ?_
 refine Seq.nil <| Fin.then <| DC.ret ?_
 refine Fin.weak (E' := [(4, .pointer (some ⟨g4, 0, none⟩)), (5, .bool (decide (e14 = 0)))]) (L' := [blk g4 27 #[.bool true, .slice Ar l14 c14, .slice none 0 0], ck14]) ⟨rfl, rfl, trivial⟩ (.cons 4 rfl (.cons 0 rfl .nil)) ?_
 refine B9 (cs := #[_, _, _]) (.inl rfl) rfl rfl rfl Fa De ?_
 have hp := rotL_iff (N := N) (es := es) (hT.mono fun l m h => Dp h)
 exact ⟨[ck14], fun w hw => hw.pick (.cons 1 rfl .nil), Ar, l14, c14, _, ck14, ls, rfl, by rw [decide_eq_true_iff, he14, hp], rfl, h14, hll, hls, fun h => ⟨ms, hT, har (hp.1 h)⟩⟩
section
variable {P : Program} {ops : Array Oper} {w0 : World} {K : List Nat} {n : Nat} {ds : List Deferred} {E : Env} {L F : List Chunk}
theorem DC.fact {Q : Exit → Act → World → Prop} {c : Code} {φ : Prop} (hf : ∀ w, Own w0 K w L → φ) (h : φ → DC P w0 K n ds Q c E L) : DC P w0 K n ds Q c E L := fun a w ha hw => h (hf w hw) a w ha hw
end
theorem rowsC_at {t i : Nat} {rs : RL} {p : Value × List Int} {A : List Chunk} (h : rs[i]? = some p) : (A ++ rowsC t rs)[A.length + i]? = some (slc p.1 t 1 (ints p.2)) := by
 rw [List.getElem?_append_right (by omega), Nat.add_sub_cancel_left]
 simp [rowsC, h]
/-- Two neighbours changed about. -/
def swpL (l : List Int) (k : Nat) (x y : Int) : List Int := (l.set k x).set (k + 1) y
theorem Kb {i : Nat} {rs : RL} {p : Value × List Int} {l : List Int} (h : rs[i]? = some p) : rowsV (rs.set i (p.1, l)) = rowsV rs := by
 unfold rowsV
 rw [List.map_set]
 apply List.ext_getElem?
 intro j
 rw [List.getElem?_set]
 split
 ·rename_i e; subst e
  obtain ⟨hl, rfl⟩ := List.getElem?_eq_some_iff.1 h
  simp [hl]
 ·rfl
section
variable {w0 w : World} {K : List Nat} {t i k : Nat} {rs : RL} {p : Value × List Int} {c1 c2 c3 c4 c5 c6 c7 c8 : Chunk}
end
end Go.Fl

namespace Go.Fl
open Go Go.Proofs
open Classical
def ofS : Nat → Int
 | 0 => 0
 | 1 => 0
 | 2 => 1
 | 3 => 1
 | _ => -1
def fnS : Nat → Nat
 | 0 => 54
 | 1 => 55
 | 2 => 56
 | 3 => 57
 | 4 => 58
 | _ => 59
def badS : Nat → Int
 | 0 => 1
 | 1 => 181
 | 2 => 182
 | 3 => 183
 | 4 => 184
 | _ => 185
theorem LM {i : Nat} (hi : i < 6) : (stepsA.toList.drop (i * 3)).take [Value.int .i64 (ofS i), fnv (fnS i), .int .i64 (badS i)].length = [.int .i64 (ofS i), fnv (fnS i), .int .i64 (badS i)] := by
 rcases (show i = 0 ∨ i = 1 ∨ i = 2 ∨ i = 3 ∨ i = 4 ∨ i = 5 by omega) with rfl | rfl | rfl | rfl | rfl | rfl <;> rfl
theorem Lu {i : Nat} (hi : i < 6) : Ent Tryz.prog (fnS i) := by
 rcases (show i = 0 ∨ i = 1 ∨ i = 2 ∨ i = 3 ∨ i = 4 ∨ i = 5 by omega) with rfl | rfl | rfl | rfl | rfl | rfl
 ·exact en54
 ·exact en55
 ·exact en56
 ·exact en57
 ·exact en58
 ·exact en59
/-- What each step asks. -/
def PS (N : Int) (es : List Pr) (pl : Bool) (ls : List (List Int)) (cs : List Pr) : Nat → Prop
 | 0 => Vld N es
 | 1 => TextOk pl ls cs
 | 2 => RotOk N es ls
 | 3 => FlatP N.toNat es ls
 | 4 => ∀ c, c ∈ cs → c ∈ es
 | _ => KuraOk N.toNat cs
def kindS (pl : Bool) : Int := if pl then 1 else -1
def Appl (pl : Bool) (i : Nat) : Prop := ofS i = 0 ∨ ofS i = kindS pl
theorem Gh {N : Int} {pl : Bool} {es cs : List Pr} {ls : List (List Int)} {va v u : Value} {w : World} (hg : PrV w va es) (hv : LsV w v ls) (hu : PrV w u cs) (hp : Pow w) (hs : ∀ l, l ∈ ls → l.length ≤ 2097152)
  {i : Nat} (hi : i < 6) (ha : Appl pl i) (hall : ∀ j, j < i → Appl pl j → PS N es pl ls cs j) :
  Calls Tryz.prog (fnS i) #[.agg #[.int .i64 N, va], .agg #[.bool pl, v, u]] w (Ret w [] fun r M => M = [] ∧ ∃ b, r = .bool b ∧ (b = true ↔ PS N es pl ls cs i)) := by
 have hv1 : v.oneCell' = true := by obtain ⟨A, c, rfl, _⟩ := hv; rfl
 have hu1 : u.oneCell' = true := by obtain ⟨A, c, rfl, _⟩ := hu; rfl
 have h0 : 0 < i → Vld N es := fun h => hall 0 h (.inl rfl)
 have hnat : 0 < i → ((N.toNat : Nat) : Int) = N := fun h => by have := (h0 h).lo; omega
 have h1 : 1 < i → TextOk pl ls cs := fun h => hall 1 h (.inl rfl)
 have hedges : 1 < i → pl = false → EdgesOk cs := fun h hpl => by
  have := (h1 h).1
  rw [hpl] at this
  exact this.2
 rcases (show i = 0 ∨ i = 1 ∨ i = 2 ∨ i = 3 ∨ i = 4 ∨ i = 5 by omega) with rfl | rfl | rfl | rfl | rfl | rfl
 ·exact HR hg rfl rfl hv1 hu1
 ·exact Ja hv hu hp hs
 ·exact IN hg hv
 ·have hpl : pl = true := by
   rcases ha with h | h
   ·simp [ofS] at h
   ·cases pl
    ·simp [ofS, kindS] at h
    ·rfl
  have hr : RotOk N es ls := hall 2 (by omega) (.inr (by rw [hpl]; rfl))
  rw [← hnat (by omega)] at hr ⊢
  refine (JK hg hv hr).mono ?_
  rintro e w' ⟨r, L, rfl, ⟨rfl, b, rfl, hb⟩, hO⟩
  refine ⟨_, _, rfl, ⟨rfl, b, rfl, ?_⟩, hO⟩
  exact flatR_iff hr hb
 ·exact HK hg hu
 ·have hpl : pl = false := by
   rcases ha with h | h
   ·simp [ofS] at h
   ·cases pl
    ·rfl
    ·simp [ofS, kindS] at h
  have hin : ∀ c, c ∈ cs → c ∈ es := hall 4 (by omega) (.inr (by rw [hpl]; rfl))
  have hV := h0 (by omega)
  rw [← hnat (by omega)] at hV ⊢
  exact H0 hg hu hV (hedges (by omega) hpl) hin
theorem LB {N : Int} {pl : Bool} {es cs : List Pr} {ls : List (List Int)} {i : Nat} (hi : i < 6) (ha : Appl pl i) (hall : ∀ j, j < i → Appl pl j → PS N es pl ls cs j) (hn : ¬ PS N es pl ls cs i) : chkF N es pl ls cs = badS i := by
 have h0 : 0 < i → Vld N es := fun h => hall 0 h (.inl rfl)
 have h1 : 1 < i → TextOk pl ls cs := fun h => hall 1 h (.inl rfl)
 unfold chkF
 have hk1 : ∀ {k : Int}, (k = 0 ∨ k = kindS true) → k = 0 ∨ k = 1 := fun h => h
 have hk2 : ∀ {k : Int}, (k = 0 ∨ k = kindS false) → k = 0 ∨ k = -1 := fun h => h
 rcases (show i = 0 ∨ i = 1 ∨ i = 2 ∨ i = 3 ∨ i = 4 ∨ i = 5 by omega) with rfl | rfl | rfl | rfl | rfl | rfl
 ·have hn' : ¬ Vld N es := hn
  rw [if_pos hn']; rfl
 ·have a0 := h0 (by omega)
  have hn' : ¬ TextOk pl ls cs := hn
  rw [if_neg (not_not_intro a0), if_pos hn']; rfl
 ·have a0 := h0 (by omega)
  have a1 := h1 (by omega)
  have hn' : ¬ RotOk N es ls := hn
  rw [if_neg (not_not_intro a0), if_neg (not_not_intro a1)]
  cases pl
  ·have := hk2 ha; simp [ofS] at this
  ·rw [if_pos rfl, if_pos hn']; rfl
 ·have a0 := h0 (by omega)
  have a1 := h1 (by omega)
  have hn' : ¬ FlatP N.toNat es ls := hn
  rw [if_neg (not_not_intro a0), if_neg (not_not_intro a1)]
  cases pl
  ·have := hk2 ha; simp [ofS] at this
  ·have a2 : RotOk N es ls := hall 2 (by omega) (.inr rfl)
   rw [if_pos rfl, if_neg (not_not_intro a2), if_pos hn']; rfl
 ·have a0 := h0 (by omega)
  have a1 := h1 (by omega)
  have hn' : ¬ ∀ c, c ∈ cs → c ∈ es := hn
  rw [if_neg (not_not_intro a0), if_neg (not_not_intro a1)]
  cases pl
  ·rw [if_neg (by simp), if_pos hn']; rfl
  ·have := hk1 ha; simp [ofS] at this
 ·have a0 := h0 (by omega)
  have a1 := h1 (by omega)
  have hn' : ¬ KuraOk N.toNat cs := hn
  rw [if_neg (not_not_intro a0), if_neg (not_not_intro a1)]
  cases pl
  ·have a4 : ∀ c, c ∈ cs → c ∈ es := hall 4 (by omega) (.inr rfl)
   rw [if_neg (by simp), if_neg (not_not_intro a4), if_pos hn']; rfl
  ·have := hk1 ha; simp [ofS] at this
theorem chk_ok {N : Int} {pl : Bool} {es cs : List Pr} {ls : List (List Int)} (hall : ∀ j, j < 6 → Appl pl j → PS N es pl ls cs j) : chkF N es pl ls cs = 0 := by
 unfold chkF
 have h0 : Vld N es := hall 0 (by omega) (.inl rfl)
 have h1 : TextOk pl ls cs := hall 1 (by omega) (.inl rfl)
 rw [if_neg (not_not_intro h0), if_neg (not_not_intro h1)]
 cases pl
 ·have a4 : ∀ c, c ∈ cs → c ∈ es := hall 4 (by omega) (.inr rfl)
  have a5 : KuraOk N.toNat cs := hall 5 (by omega) (.inr rfl)
  rw [if_neg (by simp), if_neg (not_not_intro a4), if_neg (not_not_intro a5)]
 ·have a2 : RotOk N es ls := hall 2 (by omega) (.inr rfl)
  have a3 : FlatP N.toNat es ls := hall 3 (by omega) (.inr rfl)
  rw [if_pos rfl, if_neg (not_not_intro a2), if_neg (not_not_intro a3)]
theorem B5 {N : Int} {pl : Bool} {es cs : List Pr} {ls : List (List Int)} {va v u : Value} {w : World} (hg : PrV w va es) (hv : LsV w v ls) (hu : PrV w u cs) (hp : Pow w) (hs : ∀ l, l ∈ ls → l.length ≤ 2097152) :
  Calls Tryz.prog 10 #[.agg #[.int .i64 N, va], .agg #[.bool pl, v, u]] w (Ret w [] fun r M => M = [] ∧ r = .int .i64 (chkF N es pl ls cs)) := by
 have hga : ∃ A l c, va = .slice A l c := by obtain ⟨A, c, rfl, _⟩ := hg; exact ⟨_, _, _, rfl⟩
 have hva : ∃ A l c, v = .slice A l c := by obtain ⟨A, c, rfl, _⟩ := hv; exact ⟨_, _, _, rfl⟩
 have hua : ∃ A l c, u = .slice A l c := by obtain ⟨A, c, rfl, _⟩ := hu; exact ⟨_, _, _, rfl⟩
 obtain ⟨A1, l1, c1, rfl⟩ := hga
 obtain ⟨A2, l2, c2, rfl⟩ := hva
 obtain ⟨A3, l3, c3, rfl⟩ := hua
 refine At (args := [_, _]) (L := []) Tryz.func10 rfl Tryz.ntmps10 rfl (Own.start _ _) ?_
 refine Zs ?_
 refine Zw (AS rfl rfl rfl) fun g2 => ?_
 refine Zw (AS rfl rfl rfl) fun g3 => ?_
 refine Za ?_
 refine Zx <| Zs ?_
 refine Za ?_
 refine Zx ?_
 refine DC.cut (ι := Unit) (fun _ => True) (fun _ => [(2, .pointer (some ⟨g2, 0, none⟩)), (3, .pointer (some ⟨g3, 0, none⟩)), (5, .int .i64 (kindS pl))]) (fun _ => [blk g3 27 #[.bool pl, .slice A2 l2 c2, .slice A3 l3 c3], blk g2 24 #[.int .i64 N, .slice A1 l1 c1]]) ?first3 ?rest3
 case first3 =>
  refine Zs ?_
  refine Zf KD ?_
  refine Zl ag4 ?_
  refine Zx ?_
  refine Zd (fun c2 => ?_) fun c2 => ?_
  ·refine DC.region ?_
   refine Za ?_
   refine Seq.nil ?_
   refine AZ () trivial ⟨rfl, rfl, by rw [show pl = true from c2]; rfl, trivial⟩ (Pick.all _)
  ·refine DC.skip ?_
   refine AZ () trivial ⟨rfl, rfl, by rw [show pl = false from c2]; rfl, trivial⟩ (Pick.all _)
 case rest3 =>
  rintro _ _
  refine DC.seq <| Zs ?_
  refine Seq.rel rfl rfl (Aq en30 rfl rfl rfl (fun w' hw => IQ w')) ?_
  rintro _ _ ⟨gs, rfl, rfl⟩
  simp only [List.cons_append, List.nil_append]
  refine Zn Tryz.underlying66 ?_
  refine Zm ?_
  refine Zx <| DC.block ?_
  refine DC.loop (ι := Nat) (fun i => i ≤ 6 ∧ ∀ j, j < i → Appl pl j → PS N es pl ls cs j)
   (fun i => [(2, .pointer (some ⟨g2, 0, none⟩)), (3, .pointer (some ⟨g3, 0, none⟩)), (5, .int .i64 (kindS pl)), (10, .slice (some ⟨gs, 0, none⟩) 6 6), (11, .int .i64 6), (12, .int .i64 i)])
   (fun _ => [blk gs 69 stepsA, blk g3 27 #[.bool pl, .slice A2 l2 c2, .slice A3 l3 c3], blk g2 24 #[.int .i64 N, .slice A1 l1 c1]]) (fun i => 6 - i) 0 ⟨Nat.zero_le _, fun _ h => absurd h (Nat.not_lt_zero _)⟩
   ⟨rfl, rfl, rfl, rfl, rfl, rfl, trivial⟩ (Pick.all _) ?_
  rintro i ⟨hi, hall⟩
  refine Zs ?_
  refine Zc ?_
  refine Zx <| DC.seq ?_
  refine Zd (fun c5 => ?_) fun c5 => ?_
  ·have hlt : i < 6 := by simp at c5; omega
   refine DC.skip <| Fin.then <| DC.seq <| DC.block <| Zs ?_
   refine Zo (AQ (ad' := ⟨gs, i * 3, none⟩) rfl rfl rfl Tryz.underlying66 sz69 (by omega) (by omega) (AC _ _)) ?_
   refine Zu (Ay (vs := [.int .i64 (ofS i), fnv (fnS i), .int .i64 (badS i)]) rfl rfl ag69 sz69 rfl (Ak (LM hlt))) ?_
   refine Zw (AH rfl ze69 rfl) fun g7 => ?_
   refine Zy (AA (cs' := #[.int .i64 (ofS i), fnv (fnS i), .int .i64 (badS i)]) rfl rfl rfl sz69 rfl (Nat.le_of_ble_eq_true rfl) rfl) ?_
   refine Zx <| Zs ?_
   refine Zf fi69_0 ?_
   refine Zl AO ?_
   refine Zo (AX rfl rfl rfl) ?_
   refine Zm ?_
   refine Seq.split 19 rfl (fun k7_3 => ?_) (fun k7_3 => ?_)
   ·refine Zk ?_
    refine Zk ?_
    refine Zk ?_
    refine Zk ?_
    refine Zt ?_
    refine Zm ?_
    refine Zf fi69_1 ?_
    refine Zl ag34 ?_
    refine Zu (Ay (vs := [_, _]) rfl rfl Bj Bc rfl (Ak rfl)) ?_
    refine Zu (Ay (vs := [_, _, _]) rfl rfl Fa De rfl (Ak rfl)) ?_
    have hap : Appl pl i := by first | exact .inl (by simpa using k7_3) | exact .inr (by simpa using k7_9)
    refine Seq.rel0 rfl rfl (Aq (Lu hlt) rfl rfl rfl (fun w' hw => Gh (hg.keep0 hw) (hv.keep0 hw) (hu.keep0 hw) (hp.keep0 hw) hs hlt hap hall)) ?_
    rintro _ ⟨b, rfl, hb⟩
    refine Zo (Bh rfl rfl) ?_
    refine Zt ?_
    refine Zx ?_
    refine Zd (fun c7 => ?_) fun c7 => ?_
    ·refine Zs ?_
     refine Zf fi69_2 ?_
     refine Zl GV ?_
     refine Za ?_
     refine Zx <| DC.ret <| Ae <| Aa <| Aa <| Ae <| Aa ?_
     refine Fin.weak (E' := [(4, _)]) ⟨rfl, trivial⟩ .nil ?_
     refine Aj (.inl rfl) rfl rfl ?_
     exact ⟨rfl, by rw [LB hlt hap hall (fun h => by rw [hb.2 h] at c7; simp at c7)]⟩
    ·refine DC.skip <| Fin.inBlock <| Fin.then <| DC.region ?_
     refine Zp ?_
     refine Zm ?_
     refine Seq.nil ?_
     refine Fin.again (i + 1) (by omega) ⟨by omega, fun j hj hap' => ?_⟩ ⟨rfl, rfl, rfl, rfl, rfl, rfl, trivial⟩ (.cons 1 rfl (.cons 1 rfl (.cons 1 rfl .nil)))
     rcases Nat.lt_succ_iff_lt_or_eq.1 hj with hj | rfl
     ·exact hall j hj hap'
     ·exact hb.1 (by simpa using c7)
   ·refine Zf fi69_0 ?_
    refine Zl AO ?_
    refine Zm ?_
    refine Zo (AX rfl rfl rfl) ?_
    refine Zg ?_
    refine Zm ?_
    refine Seq.split 25 rfl (fun k7_9 => ?_) (fun k7_9 => ?_)
    ·refine Zf fi69_1 ?_
     refine Zl ag34 ?_
     refine Zu (Ay (vs := [_, _]) rfl rfl Bj Bc rfl (Ak rfl)) ?_
     refine Zu (Ay (vs := [_, _, _]) rfl rfl Fa De rfl (Ak rfl)) ?_
     have hap : Appl pl i := by first | exact .inl (by simpa using k7_3) | exact .inr (by simpa using k7_9)
     refine Seq.rel0 rfl rfl (Aq (Lu hlt) rfl rfl rfl (fun w' hw => Gh (hg.keep0 hw) (hv.keep0 hw) (hu.keep0 hw) (hp.keep0 hw) hs hlt hap hall)) ?_
     rintro _ ⟨b, rfl, hb⟩
     refine Zo (Bh rfl rfl) ?_
     refine Zt ?_
     refine Zx ?_
     refine Zd (fun c7 => ?_) fun c7 => ?_
     ·refine Zs ?_
      refine Zf fi69_2 ?_
      refine Zl GV ?_
      refine Za ?_
      refine Zx <| DC.ret <| Ae <| Aa <| Aa <| Ae <| Aa ?_
      refine Fin.weak (E' := [(4, _)]) ⟨rfl, trivial⟩ .nil ?_
      refine Aj (.inl rfl) rfl rfl ?_
      exact ⟨rfl, by rw [LB hlt hap hall (fun h => by rw [hb.2 h] at c7; simp at c7)]⟩
     ·refine DC.skip <| Fin.inBlock <| Fin.then <| DC.region ?_
      refine Zp ?_
      refine Zm ?_
      refine Seq.nil ?_
      refine Fin.again (i + 1) (by omega) ⟨by omega, fun j hj hap' => ?_⟩ ⟨rfl, rfl, rfl, rfl, rfl, rfl, trivial⟩ (.cons 1 rfl (.cons 1 rfl (.cons 1 rfl .nil)))
      rcases Nat.lt_succ_iff_lt_or_eq.1 hj with hj | rfl
      ·exact hall j hj hap'
      ·exact hb.1 (by simpa using c7)
    ·refine Zk ?_
     refine Zk ?_
     refine Zk ?_
     refine Zk ?_
     refine Zk ?_
     refine Zk ?_
     refine Zg ?_
     refine Zx ?_
     refine Bw rfl ?_
     refine DC.skip <| Fin.inBlock <| Fin.then <| DC.region ?_
     refine Zp ?_
     refine Zm ?_
     refine Seq.nil ?_
     refine Fin.again (i + 1) (by omega) ⟨by omega, fun j hj hap' => ?_⟩ ⟨rfl, rfl, rfl, rfl, rfl, rfl, trivial⟩ (.cons 1 rfl (.cons 1 rfl (.cons 1 rfl .nil)))
     rcases Nat.lt_succ_iff_lt_or_eq.1 hj with hj | rfl
     ·exact hall j hj hap'
     ·rcases hap' with h | h
      ·simp at k7_3; exact absurd h k7_3
      ·simp at k7_9; exact absurd h k7_9
  ·refine DC.exit <| Ad <| Ad <| Ag <| Fin.then <| Zs ?_
   refine Za ?_
   refine Zx <| DC.ret ?_
   refine Fin.weak (E' := [(4, _)]) ⟨rfl, trivial⟩ .nil ?_
   refine Aj (.inl rfl) rfl rfl ?_
   have hie : i = 6 := by simp at c5; omega
   subst hie
   exact ⟨rfl, by rw [chk_ok hall]⟩
end Go.Fl

namespace Go.Fl
open Go Go.Proofs
open Classical
def es4 : List Pr := [(0, 1), (0, 2), (0, 3), (1, 2), (1, 3), (2, 3)]
def lsA : List (List Int) := [[1, 2, 3], [0, 3, 2], [0, 1, 3], [0, 2, 1]]
def lsB : List (List Int) := [[1, 2, 3], [0, 2, 3], [0, 1, 3], [0, 1, 2]]
def rsA : List (List Int) := [[0, 2, 4], [1, 8, 6], [3, 7, 10], [5, 11, 9]]
def rsB : List (List Int) := [[0, 2, 4], [1, 6, 8], [3, 7, 10], [5, 9, 11]]
theorem lt4 {v : Nat} {α : Type} {a b c d x : α} (h : [a, b, c, d][v]? = some x) : (v = 0 ∧ x = a) ∨ (v = 1 ∧ x = b) ∨ (v = 2 ∧ x = c) ∨ (v = 3 ∧ x = d) := by
 match v, h with
 | 0, h => simp at h; exact .inl ⟨rfl, h.symm⟩
 | 1, h => simp at h; exact .inr (.inl ⟨rfl, h.symm⟩)
 | 2, h => simp at h; exact .inr (.inr (.inl ⟨rfl, h.symm⟩))
 | 3, h => simp at h; exact .inr (.inr (.inr ⟨rfl, h.symm⟩))
 | v + 4, h => simp at h
theorem lt3 {v : Nat} {α : Type} {a b c x : α} (h : [a, b, c][v]? = some x) : (v = 0 ∧ x = a) ∨ (v = 1 ∧ x = b) ∨ (v = 2 ∧ x = c) := by
 match v, h with
 | 0, h => simp at h; exact .inl ⟨rfl, h.symm⟩
 | 1, h => simp at h; exact .inr (.inl ⟨rfl, h.symm⟩)
 | 2, h => simp at h; exact .inr (.inr ⟨rfl, h.symm⟩)
 | v + 3, h => simp at h
theorem LL : Vld 4 es4 where
 lo := by decide
 hi := by decide
 few := by decide
 ok := by
  intro i e h
  match i, h with
  | 0, h => cases h; exact ⟨by decide, by decide, by decide⟩
  | 1, h => cases h; exact ⟨by decide, by decide, by decide⟩
  | 2, h => cases h; exact ⟨by decide, by decide, by decide⟩
  | 3, h => cases h; exact ⟨by decide, by decide, by decide⟩
  | 4, h => cases h; exact ⟨by decide, by decide, by decide⟩
  | 5, h => cases h; exact ⟨by decide, by decide, by decide⟩
  | i + 6, h => simp [es4] at h
 up := by
  intro i a b h k
  match i, h, k with
  | 0, h, k => cases h; cases k; exact .inr ⟨by decide, by decide⟩
  | 1, h, k => cases h; cases k; exact .inr ⟨by decide, by decide⟩
  | 2, h, k => cases h; cases k; exact .inl (by decide)
  | 3, h, k => cases h; cases k; exact .inr ⟨by decide, by decide⟩
  | 4, h, k => cases h; cases k; exact .inl (by decide)
  | i + 5, h, k => simp [es4] at k
theorem conn4 {v : Nat} (h0 : 0 < v) (h : v < 4) : Conn es4 0 v := by
 refine .edge 0 v ?_
 match v, h0, h with
 | 1, _, _ => decide
 | 2, _, _ => decide
 | 3, _, _ => decide
theorem ncomp4 : ncomp 4 es4 = 1 := by
 have e : List.range 4 = [0, 1, 2, 3] := rfl
 unfold ncomp
 rw [e]
 have h0 : ∀ y, y < 0 → ¬ Conn es4 y 0 := fun y h => by omega
 have h1 : ∀ v, 0 < v → v < 4 → ¬ (∀ y, y < v → ¬ Conn es4 y v) := fun v h1 h2 h => h 0 h1 (conn4 h1 h2)
 rw [List.countP_cons, List.countP_cons, List.countP_cons, List.countP_cons, List.countP_nil, if_neg (by simpa using h1 3 (by decide) (by decide)), if_neg (by simpa using h1 2 (by decide) (by decide)), if_neg (by simpa using h1 1 (by decide) (by decide)), if_pos (decide_eq_true h0)]
theorem iso4 : isoN 4 es4 = 0 := by decide
def tabF (l : List Int) (h : Nat) : Int := (l[h]?).getD 0
/-- by half-edge the next one -/
def fnA : Nat → Int := tabF [2, 8, 4, 7, 0, 11, 1, 10, 6, 5, 3, 9]
def fnB : Nat → Int := tabF [2, 6, 4, 7, 0, 9, 8, 10, 1, 11, 3, 5]
theorem Ek {f : Nat → Nat} {x m : Nat} (h0 : 0 < m) (h1 : itr f m x = x) (h2 : ∀ k, k < m → x ≤ itr f k x) : Lead f x := by
 intro k
 induction k using Nat.strongRecOn with
 | _ k ih =>
  by_cases hk : k < m
  ·exact h2 k hk
  ·have := ih (k - m) (by omega)
   have e : itr f k x = itr f (k - m) (itr f m x) := by rw [← Cm]; congr 1; omega
   rw [e, h1]; exact this
theorem Bq {f : Nat → Nat} {x k : Nat} (h : itr f k x < x) : ¬ Lead f x := fun hl => by have := hl k; omega
theorem facesA : facesN es4 fnA = 4 := by
 have h0 : decide (Lead (phi fnA) 0) = true := decide_eq_true (Ek (m := 3) (by decide) (by decide) (by decide))
 have h1 : decide (Lead (phi fnA) 1) = true := decide_eq_true (Ek (m := 3) (by decide) (by decide) (by decide))
 have h2 : decide (Lead (phi fnA) 2) = false := decide_eq_false (Bq (k := 2) (by decide))
 have h3 : decide (Lead (phi fnA) 3) = true := decide_eq_true (Ek (m := 3) (by decide) (by decide) (by decide))
 have h4 : decide (Lead (phi fnA) 4) = false := decide_eq_false (Bq (k := 2) (by decide))
 have h5 : decide (Lead (phi fnA) 5) = false := decide_eq_false (Bq (k := 1) (by decide))
 have h6 : decide (Lead (phi fnA) 6) = true := decide_eq_true (Ek (m := 3) (by decide) (by decide) (by decide))
 have h7 : decide (Lead (phi fnA) 7) = false := decide_eq_false (Bq (k := 1) (by decide))
 have h8 : decide (Lead (phi fnA) 8) = false := decide_eq_false (Bq (k := 2) (by decide))
 have h9 : decide (Lead (phi fnA) 9) = false := decide_eq_false (Bq (k := 1) (by decide))
 have h10 : decide (Lead (phi fnA) 10) = false := decide_eq_false (Bq (k := 2) (by decide))
 have h11 : decide (Lead (phi fnA) 11) = false := decide_eq_false (Bq (k := 1) (by decide))
 have e : List.range (es4.length * 2) = [0, 1, 2, 3, 4, 5, 6, 7, 8, 9, 10, 11] := rfl
 unfold facesN headsOf
 rw [e, List.length_map]
 simp only [List.filter_cons, List.filter_nil, h0, h1, h2, h3, h4, h5, h6, h7, h8, h9, h10, h11]
 rfl
theorem facesB : facesN es4 fnB = 2 := by
 have h0 : decide (Lead (phi fnB) 0) = true := decide_eq_true (Ek (m := 4) (by decide) (by decide) (by decide))
 have h1 : decide (Lead (phi fnB) 1) = true := decide_eq_true (Ek (m := 8) (by decide) (by decide) (by decide))
 have h2 : decide (Lead (phi fnB) 2) = false := decide_eq_false (Bq (k := 7) (by decide))
 have h3 : decide (Lead (phi fnB) 3) = false := decide_eq_false (Bq (k := 3) (by decide))
 have h4 : decide (Lead (phi fnB) 4) = false := decide_eq_false (Bq (k := 2) (by decide))
 have h5 : decide (Lead (phi fnB) 5) = false := decide_eq_false (Bq (k := 1) (by decide))
 have h6 : decide (Lead (phi fnB) 6) = false := decide_eq_false (Bq (k := 3) (by decide))
 have h7 : decide (Lead (phi fnB) 7) = false := decide_eq_false (Bq (k := 6) (by decide))
 have h8 : decide (Lead (phi fnB) 8) = false := decide_eq_false (Bq (k := 5) (by decide))
 have h9 : decide (Lead (phi fnB) 9) = false := decide_eq_false (Bq (k := 1) (by decide))
 have h10 : decide (Lead (phi fnB) 10) = false := decide_eq_false (Bq (k := 2) (by decide))
 have h11 : decide (Lead (phi fnB) 11) = false := decide_eq_false (Bq (k := 4) (by decide))
 have e : List.range (es4.length * 2) = [0, 1, 2, 3, 4, 5, 6, 7, 8, 9, 10, 11] := rfl
 unfold facesN headsOf
 rw [e, List.length_map]
 simp only [List.filter_cons, List.filter_nil, h0, h1, h2, h3, h4, h5, h6, h7, h8, h9, h10, h11]
 rfl
theorem genusA : genus2 4 es4 fnA = 0 := by unfold genus2; rw [ncomp4, iso4, facesA]; rfl
theorem genusB : genus2 4 es4 fnB = 2 := by unfold genus2; rw [ncomp4, iso4, facesB]; rfl
theorem FB {es : List Pr} {u v x : Int} (h : rhalfF u v 0 es = x) (hx : x ≠ -1) : IsHalf es u v x := by
 rcases Kc (es := es) u v with h1 | ⟨h1, _⟩
 ·rw [h] at h1; exact h1
 ·omega
theorem hit_ok {es : List Pr} {v : Nat} {l : List Int} (h : ∀ u, u ∈ l → rhalfF v u 0 es ≠ -1) : ∀ u, u ∈ l → ∃ h, IsHalf es v u h := fun u hu => ⟨_, FB rfl (h u hu)⟩
theorem rotOkA : RotOk 4 es4 lsA := by
 refine ⟨LL, by decide, fun v l hl => ?_⟩
 rcases lt4 hl with ⟨rfl, rfl⟩ | ⟨rfl, rfl⟩ | ⟨rfl, rfl⟩ | ⟨rfl, rfl⟩ <;> exact ⟨hit_ok (by decide), by decide, by decide⟩
theorem rotOkB : RotOk 4 es4 lsB := by
 refine ⟨LL, by decide, fun v l hl => ?_⟩
 rcases lt4 hl with ⟨rfl, rfl⟩ | ⟨rfl, rfl⟩ | ⟨rfl, rfl⟩ | ⟨rfl, rfl⟩ <;> exact ⟨hit_ok (by decide), by decide, by decide⟩
theorem rotRA : RotR es4 lsA rsA := by
 refine ⟨rfl, fun v l r hl hr => ?_⟩
 rcases lt4 hl with ⟨rfl, rfl⟩ | ⟨rfl, rfl⟩ | ⟨rfl, rfl⟩ | ⟨rfl, rfl⟩ <;> cases hr <;> refine ⟨rfl, fun j u h hj hk => ?_⟩ <;> rcases lt3 hj with ⟨rfl, rfl⟩ | ⟨rfl, rfl⟩ | ⟨rfl, rfl⟩ <;> cases hk <;> exact FB (by decide) (by decide)
theorem rotRB : RotR es4 lsB rsB := by
 refine ⟨rfl, fun v l r hl hr => ?_⟩
 rcases lt4 hl with ⟨rfl, rfl⟩ | ⟨rfl, rfl⟩ | ⟨rfl, rfl⟩ | ⟨rfl, rfl⟩ <;> cases hr <;> refine ⟨rfl, fun j u h hj hk => ?_⟩ <;> rcases lt3 hj with ⟨rfl, rfl⟩ | ⟨rfl, rfl⟩ | ⟨rfl, rfl⟩ <;> cases hk <;> exact FB (by decide) (by decide)
theorem nxOkA : NxOk rsA rsA.length fnA := by
 intro x l i h hx hl hi
 rcases lt4 hl with ⟨rfl, rfl⟩ | ⟨rfl, rfl⟩ | ⟨rfl, rfl⟩ | ⟨rfl, rfl⟩ <;> rcases lt3 hi with ⟨rfl, rfl⟩ | ⟨rfl, rfl⟩ | ⟨rfl, rfl⟩ <;> rfl
theorem nxOkB : NxOk rsB rsB.length fnB := by
 intro x l i h hx hl hi
 rcases lt4 hl with ⟨rfl, rfl⟩ | ⟨rfl, rfl⟩ | ⟨rfl, rfl⟩ | ⟨rfl, rfl⟩ <;> rcases lt3 hi with ⟨rfl, rfl⟩ | ⟨rfl, rfl⟩ | ⟨rfl, rfl⟩ <;> rfl
theorem flatA : FlatP 4 es4 lsA := ⟨rsA, fnA, rotRA, nxOkA, genusA⟩
theorem flatB : ¬ FlatP 4 es4 lsB := by
 rintro ⟨rs, fn, h1, h2, h3⟩
 have := Fi LL h1 rotRB
 subst this
 have h4 := CX (n := 4) (HT rotOkB h1) h2 nxOkB
 rw [h3, genusB] at h4
 omega
theorem Jg {ls : List (List Int)} (h1 : ls.length ≤ 4) (h : ∀ l, l ∈ ls → ∀ n, n ∈ l → Fits n ∧ ∀ a, l[0]? = some a → a ≤ n) : ListsOk ls := by
 refine ⟨by omega, fun i l hl j n a hj ha => ?_⟩
 have := h l (List.mem_of_getElem? hl) n (List.mem_of_getElem? hj)
 exact ⟨this.1, this.2 a ha⟩
theorem Fy {ls : List (List Int)} (h : ∀ l, l ∈ ls → l.length ≤ 3 ∧ ∀ a, a ∈ l → I64 a) : (ls.map lineB).flatten.length ≤ 100 * ls.length := by
 induction ls with
 | nil => simp
 | cons l r ih =>
  have h1 := h l (List.mem_cons_self ..)
  have h2 := Ej h1.2
  have h3 := ih (fun l' hl => h l' (List.mem_cons_of_mem _ hl))
  simp only [List.map_cons, List.flatten_cons, List.length_append, List.length_cons]
  omega
theorem textA : TextOk true lsA [] := by
 refine ⟨⟨rfl, Jg (by decide) (by unfold Fits; decide)⟩, ?_⟩
 have h1 := El (letter := [112]) (n := 4) rfl (by decide)
 have h2 := Fy (ls := lsA) (by unfold I64; decide)
 have h3 : lsA.length = 4 := rfl
 simp only [certB, textB, List.length_append, if_true, List.length_map, h3] at h1 h2 ⊢
 omega
theorem textB4 : TextOk true lsB [] := by
 refine ⟨⟨rfl, Jg (by decide) (by unfold Fits; decide)⟩, ?_⟩
 have h1 := El (letter := [112]) (n := 4) rfl (by decide)
 have h2 := Fy (ls := lsB) (by unfold I64; decide)
 have h3 : lsB.length = 4 := rfl
 simp only [certB, textB, List.length_append, if_true, List.length_map, h3] at h1 h2 ⊢
 omega
def cs4 : List Pr := [(0, 1), (0, 4)]
theorem textC : TextOk false [] cs4 := by
 refine ⟨⟨rfl, ⟨by decide, fun i e h => ?_, fun i a b h k => ?_⟩⟩, ?_⟩
 ·match i, h with
  | 0, h => cases h; unfold Fits; decide
  | 1, h => cases h; unfold Fits; decide
  | i + 2, h => simp [cs4] at h
 ·match i, h, k with
  | 0, h, k => cases h; cases k; exact .inr ⟨rfl, by decide⟩
  | i + 1, h, k => simp [cs4] at k
 ·have h1 := El (letter := [110]) (n := 2) rfl (by decide)
  have h2 := Fy (ls := [[0, 1], [0, 4]]) (by unfold I64; decide)
  simp only [certB, textB, List.length_append, List.length_map, cs4, List.map_cons, List.map_nil, List.length_cons, List.length_nil] at h1 h2 ⊢
  simp only [Bool.false_eq_true, if_false, List.length_append]
  simp at h1 h2 ⊢
  omega
theorem chkA : chkF 4 es4 true lsA [] = 0 := by
 unfold chkF
 rw [if_neg (not_not_intro LL), if_neg (not_not_intro textA), if_pos rfl, if_neg (not_not_intro rotOkA), if_neg (not_not_intro (show FlatP (4 : Int).toNat es4 lsA from flatA))]
theorem chkB : chkF 4 es4 true lsB [] = 183 := by
 unfold chkF
 rw [if_neg (not_not_intro LL), if_neg (not_not_intro textB4), if_pos rfl, if_neg (not_not_intro rotOkB), if_pos (show ¬ FlatP (4 : Int).toNat es4 lsB from flatB)]
theorem chkC : chkF 4 es4 false [] cs4 = 184 := by
 unfold chkF
 rw [if_neg (not_not_intro LL), if_neg (not_not_intro textC), if_neg (by decide), if_pos]
 intro h
 have := h (0, 4) (by decide)
 revert this; decide
/-- "1 1\n0 1\n" -/
def txt4 : List UInt8 := [49, 32, 49, 10, 48, 32, 49, 10]
theorem raw4 : rawF txt4 = .bad 24 6 := by
 simp [rawF, scanA, txt4, scanF, isDig, digs, decF, feedF, lineF, endF]
end Go.Fl

namespace Go.Fl
open Go Go.Proofs
/-- A scanner: its struct in block gs, its tokens. -/
def scL (gs : Nat) (vb vt : Value) (i : Nat) (tk : List Tk) : List Chunk := [blk gs 176 #[vb, .int .i64 i, vt], slc vt 138 4 (tks tk)]
def sflt (v e : Int) : Value := .iface 172 (.agg #[.int .i64 v, .int .i64 e])
def digAt (bs : List UInt8) (i : Nat) : Bool := (bs[i]?.map isDig).getD false
theorem Dq {gs i : Nat} {vb vt : Value} {tk : List Tk} {kd fr nu : Int} {w : World} (hO : Own w (idsOf (scL gs vb vt i tk)) w (scL gs vb vt i tk)) (hl : tk.length ≤ 100000000) :
  Calls Tryz.prog 135 #[.pointer (some ⟨gs, 0, none⟩), .int .i64 kd, .int .i64 fr, .int .i64 nu] w
   (Ret w (idsOf (scL gs vb vt i tk)) fun r M => r = .tuple #[] ∧ ∃ vt', M = scL gs vb vt' i (tk ++ [⟨kd, fr, i, nu⟩])) := by
 refine At (args := [_, _, _, _]) Tryz.func135 rfl Tryz.ntmps135 rfl hO ?_
 unfold scL
 refine AG (cl := [.q, .q, .q, .q, .v, .q, .q, .q, .q, .q, .v, .q, .q, .n, .g, .q, .q, .g]) (A := [0, 0, 2, 6, 14, 0, 0, 0, 128, 384, 896, 0, 4064, 8160, 16382, 32767, 65535, 131071]) (order := [0, 1, 2, 3, 4, 5, 6, 7, 8, 9, 10, 11, 12, 13, 14, 15, 16, 17]) [] mixed (by kernel_rfl) (fun w hw => hw.pick .nil) ?_
 refine Ym ?_
 refine Ym ?_
 refine Yo rfl (AK rfl rfl) ?_
 refine Yf Ik ?_
 refine Yl LF ?_
 refine Ym ?_
 refine Ym ?_
 refine Ym ?_
 refine Yo rfl (AK rfl rfl) ?_
 refine Yf Bi ?_
 refine Yl AO ?_
 refine Ym ?_
 refine Yo rfl (AD (cs := #[_, _, _, _]) rfl rfl bs138 rfl rfl) ?_
 refine AY rfl rfl rfl rfl (AP (cs := #[_, _, _, _]) rfl rfl Tryz.underlying131 B2 Hc rfl (by decide) (by decide) rfl rfl) fun g21 => ?_
 refine Cu (V := [blk g21 138 #[.int .i64 kd, .int .i64 fr, .int .i64 i, .int .i64 nu], blk gs 176 #[vb, .int .i64 i, vt], slc vt 138 4 (tks tk)]) rfl rfl rfl rfl rfl (Gen.shape (AR (F := [blk g21 138 #[.int .i64 kd, .int .i64 fr, .int .i64 i, .int .i64 nu], blk gs _ _]) (vs := tks tk) (k := 1) (news := [.int .i64 kd, .int .i64 fr, .int .i64 i, .int .i64 nu]) rfl rfl rfl Tryz.underlying131 B2 by138 Hc rfl (by decide) (by decide)
  (fun w hw => hw.pick (.cons 2 rfl (.cons 0 rfl (.cons 0 rfl .nil)))) (.inl ⟨_, _, rfl, Ak rfl⟩) rfl (by intro u hu; simp at hu; rcases hu with rfl | rfl | rfl | rfl <;> rfl) (by rw [tks_length]; omega))) (fun v L' hC w hw => hw.pick (.nil)) ?_
 rintro _ _ ⟨⟨A11, l11, c11, rfl⟩, rfl⟩
 refine Yo rfl (AK rfl rfl) ?_
 refine Yf Ik ?_
 refine AL rfl rfl rfl rfl (AF (cs' := #[_, _, _]) rfl rfl rfl sz131 rfl (Nat.le_of_ble_eq_true rfl) rfl) (fun w hw => hw.pick (.nil)) ?_
 refine Flow.end rfl ?_
 simp only [zq, zr]
 refine Fin.weak (E' := []) trivial (.cons 2 rfl (.cons 0 rfl .nil)) ?_
 refine BQ (.inr rfl) rfl ?_
 refine ⟨rfl, .slice A11 l11 c11, ?_⟩
 simp [scL, Gd, tks]
theorem EO {gs i : Nat} {vb vt : Value} {bs : List UInt8} {w : World} (hg : w.heap[gs]? = some (.cells #[vb, .int .i64 i, vt] 176 (0, 0))) (hB : ByV w vb bs) :
  Calls Tryz.prog 133 #[.pointer (some ⟨gs, 0, none⟩)] w (Ret w [] fun r M => M = [] ∧ r = .bool (digAt bs i)) := by
 obtain ⟨A, cap, rfl, hR, h1, h2⟩ := hB
 refine At (args := [_]) (L := []) Tryz.func133 rfl Tryz.ntmps133 rfl (Own.start _ _) ?_
 refine Zs ?_
 refine Za ?_
 refine Zx <| DC.seq ?_
 refine AG (cl := [.q, .q, .q, .v, .q, .q, .q, .v, .q, .q, .q, .q, .q, .q, .v, .q, .q, .q, .v, .q, .v, .q, .q, .q, .q, .q, .q, .v, .q, .q, .q, .v, .q, .v, .q, .q, .q]) (A := [0, 1, 3, 7, 0, 16, 48, 112, 240, 511, 1023, 2047, 4095, 8191, 16383, 2047, 34815, 100351, 231423, 524287, 1048575, 2097151, 4194303, 8388607, 16777215, 33554431, 67108863, 134217727, 16777215, 285212671, 822083583, 1895825407, 4294967295, 8589934591, 17179869183, 34359738367, 68719476735]) (order := [0, 1, 2, 3, 4, 5, 6, 7, 8, 9, 10, 11, 12, 13, 14, 15, 16, 17, 18, 19, 20, 21, 22, 23, 24, 25, 26, 27, 28, 29, 30, 31, 32, 33, 34, 35, 36]) [] mixed (by kernel_rfl) (fun w hw => hw.pick .nil) ?_
 refine Ym ?_
 refine Yo rfl (AK rfl rfl) ?_
 refine Yf Bi ?_
 refine Am rfl rfl rfl rfl (Ah rfl rfl AO (AT hg rfl)) ?_
 refine Ym ?_
 refine Yo rfl (AK rfl rfl) ?_
 refine Yf C7 ?_
 refine Am rfl rfl rfl rfl (Ah rfl rfl JP (AT hg rfl)) ?_
 refine Yo rfl (BM rfl rfl Tryz.underlying47) ?_
 refine Yo rfl (Cj rfl rfl rfl) ?_
 refine Ym ?_
 refine Flow.split 13 rfl (fun k1_10 => ?_) (fun k1_10 => ?_)
 ·have hil : i < bs.length := by simpa using k1_10
  obtain ⟨c, hc⟩ : ∃ c, bs[i]? = some c := ⟨_, List.getElem?_eq_getElem hil⟩
  obtain ⟨ad, rfl, hcell⟩ := hR.byte hc
  refine Ym ?_
  refine Yo rfl (AK rfl rfl) ?_
  refine Yf C7 ?_
  refine Am rfl rfl rfl rfl (Ah rfl rfl JP (AT hg rfl)) ?_
  refine Ym ?_
  refine Yo rfl (AK rfl rfl) ?_
  refine Yf Bi ?_
  refine Am rfl rfl rfl rfl (Ah rfl rfl AO (AT hg rfl)) ?_
  refine Yo rfl (Ai (ad' := ad.add i) rfl rfl rfl Tryz.underlying47 sz5 (by omega) (by omega) (by rw [Int.toNat_natCast])) ?_
  refine Am rfl rfl rfl rfl (Ah rfl rfl ag5 (AE hcell)) ?_
  refine Yo rfl (Ck rfl rfl rfl) ?_
  refine Yo rfl (Bg rfl rfl rfl) ?_
  refine Ym ?_
  refine Flow.split 26 rfl (fun k1_23 => ?_) (fun k1_23 => ?_)
  ·refine Ym ?_
   refine Yo rfl (AK rfl rfl) ?_
   refine Yf C7 ?_
   refine Am rfl rfl rfl rfl (Ah rfl rfl JP (AT hg rfl)) ?_
   refine Ym ?_
   refine Yo rfl (AK rfl rfl) ?_
   refine Yf Bi ?_
   refine Am rfl rfl rfl rfl (Ah rfl rfl AO (AT hg rfl)) ?_
   refine Yo rfl (Ai (ad' := ad.add i) rfl rfl rfl Tryz.underlying47 sz5 (by omega) (by omega) (by rw [Int.toNat_natCast])) ?_
   refine Am rfl rfl rfl rfl (Ah rfl rfl ag5 (AE hcell)) ?_
   refine Yo rfl (p_leq rfl rfl rfl) ?_
   refine Yo rfl (Bg rfl rfl rfl) ?_
   refine Yo rfl (Aw rfl rfl) ?_
   refine Flow.end rfl ?_
   simp only [zq, zr]
   refine Fin.then <| DC.ret ?_
   refine Aj (.inl rfl) rfl rfl ?_
   refine ⟨rfl, ?_⟩
   first
   | (have h9 : 48 ≤ c.toNat := by (simp at k1_23; omega)
      rw [digAt, hc]; simp [isDig, h9]; omega)
   | (have h9 : ¬ 48 ≤ c.toNat := by (simp at k1_23; omega)
      rw [digAt, hc]; simp [isDig, h9])
   | (rw [digAt, List.getElem?_eq_none hil]; rfl)
  ·refine Yk ?_
   refine Yk ?_
   refine Yk ?_
   refine Yk ?_
   refine Yk ?_
   refine Yk ?_
   refine Yk ?_
   refine Yk ?_
   refine Yk ?_
   refine Yk ?_
   refine Yk ?_
   refine Yo rfl (Bl rfl rfl rfl) ?_
   refine Yo rfl (Aw rfl rfl) ?_
   refine Flow.end rfl ?_
   simp only [zq, zr]
   refine Fin.then <| DC.ret ?_
   refine Aj (.inl rfl) rfl rfl ?_
   refine ⟨rfl, ?_⟩
   first
   | (have h9 : 48 ≤ c.toNat := by (simp at k1_23; omega)
      rw [digAt, hc]; simp [isDig, h9]; omega)
   | (have h9 : ¬ 48 ≤ c.toNat := by (simp at k1_23; omega)
      rw [digAt, hc]; simp [isDig, h9])
   | (rw [digAt, List.getElem?_eq_none hil]; rfl)
 ·have hil : bs.length ≤ i := by simpa using k1_10
  refine Yk ?_
  refine Yk ?_
  refine Yk ?_
  refine Yk ?_
  refine Yk ?_
  refine Yk ?_
  refine Yk ?_
  refine Yk ?_
  refine Yk ?_
  refine Yk ?_
  refine Yk ?_
  refine Yo rfl (Bl rfl rfl rfl) ?_
  refine Ym ?_
  refine Yk ?_
  refine Yk ?_
  refine Yk ?_
  refine Yk ?_
  refine Yk ?_
  refine Yk ?_
  refine Yk ?_
  refine Yk ?_
  refine Yk ?_
  refine Yk ?_
  refine Yk ?_
  refine Yo rfl (Bl rfl rfl rfl) ?_
  refine Yo rfl (Aw rfl rfl) ?_
  refine Flow.end rfl ?_
  simp only [zq, zr]
  refine Fin.then <| DC.ret ?_
  refine Aj (.inl rfl) rfl rfl ?_
  refine ⟨rfl, ?_⟩
  first
  | (have h9 : 48 ≤ c.toNat := by (simp at k1_23; omega)
     rw [digAt, hc]; simp [isDig, h9]; omega)
  | (have h9 : ¬ 48 ≤ c.toNat := by (simp at k1_23; omega)
     rw [digAt, hc]; simp [isDig, h9])
  | (rw [digAt, List.getElem?_eq_none hil]; rfl)
theorem LA {c : UInt8} (h : isDig c = true) : 48 ≤ c.toNat ∧ c.toNat ≤ 57 := by simpa [isDig] using h
theorem KH : ∀ (k : Nat) (l : List UInt8), l.length = k → (∀ c, c ∈ l → isDig c = true) → 0 ≤ decF l ∧ decF l < 10 ^ k := by
 intro k
 induction k with
 | zero => intro l h _; rw [List.eq_nil_of_length_eq_zero h]; simp [decF]
 | succ k ih =>
  intro l h hd
  have hne : l ≠ [] := by rintro rfl; simp at h
  obtain ⟨x, hx⟩ : ∃ x, x = l.getLast hne := ⟨_, rfl⟩
  have e : l = l.dropLast ++ [x] := by rw [hx]; exact (List.dropLast_concat_getLast hne).symm
  have h1 := ih l.dropLast (by simp; omega) (fun c hc => hd c (List.dropLast_subset _ hc))
  have h2 := LA (hd x (by rw [hx]; exact List.getLast_mem hne))
  rw [e, HE]
  have : (10 : Int) ^ (k + 1) = 10 * 10 ^ k := by rw [Int.pow_succ, Int.mul_comm]
  omega
theorem CZ {bs : List UInt8} {i : Nat} (h : digAt bs i = true) : ∃ c, bs[i]? = some c ∧ isDig c = true := by
 unfold digAt at h
 cases hc : bs[i]? with
 | none => rw [hc] at h; cases h
 | some c => rw [hc] at h; exact ⟨c, rfl, h⟩
def numAt (bs : List UInt8) (i j : Nat) : Int := decF ((bs.drop i).take (min (j - i) 9))
theorem num_bound {bs : List UInt8} {i j : Nat} (hd : ∀ p, i ≤ p → p < j → digAt bs p = true) (hij : i ≤ j) (hj : j ≤ bs.length) : 0 ≤ numAt bs i j ∧ numAt bs i j < 1000000000 := by
 have hl : ((bs.drop i).take (min (j - i) 9)).length = min (j - i) 9 := by simp; omega
 have := KH _ _ hl (fun c hc => by
  obtain ⟨p, hp, rfl⟩ := List.mem_iff_getElem.1 hc
  rw [hl] at hp
  obtain ⟨c', h1, h2⟩ := CZ (hd (i + p) (by omega) (by omega))
  simp only [List.getElem_take, List.getElem_drop]
  rw [List.getElem?_eq_getElem (by omega)] at h1
  cases h1; exact h2)
 have h9 : (10 : Int) ^ (min (j - i) 9) ≤ 10 ^ 9 := by
  have : min (j - i) 9 ≤ 9 := Nat.min_le_right _ _
  exact_mod_cast Nat.pow_le_pow_right (by omega) this
 have : (10 : Int) ^ 9 = 1000000000 := by decide
 unfold numAt
 omega
theorem I8 {bs : List UInt8} {i j : Nat} {c : UInt8} (hij : i ≤ j) (hc : bs[j]? = some c) : numAt bs i (j + 1) = if j - i < 9 then 10 * numAt bs i j + ((c.toNat : Int) - 48) else numAt bs i j := by
 unfold numAt
 have hj := (List.getElem?_eq_some_iff.1 hc).1
 split
 ·rename_i h
  rw [show min (j + 1 - i) 9 = (j - i) + 1 by omega, show min (j - i) 9 = j - i by omega, List.take_add_one, ← HE]
  congr 1; congr 1
  rw [List.getElem?_drop, show i + (j - i) = j by omega, hc]; rfl
 ·rename_i h
  rw [show min (j + 1 - i) 9 = 9 by omega, show min (j - i) 9 = 9 by omega]
theorem J3 {gs i : Nat} {vb vt : Value} {tk : List Tk} {bs : List UInt8} {w : World} (hO : Own w (idsOf (scL gs vb vt i tk)) w (scL gs vb vt i tk)) (hB : ByV w vb bs) (ho : ByO vb bs (idsOf (scL gs vb vt i tk))) (hl : tk.length ≤ 100000000) (hb : bs.length ≤ 33554432)
  (h0 : digAt bs i = true) :
  Calls Tryz.prog 134 #[.pointer (some ⟨gs, 0, none⟩)] w
   (RetP w (idsOf (scL gs vb vt i tk)) (fun r M => r = .tuple #[] ∧ ∃ vt' j tk', M = scL gs vb vt' j tk' ∧ (i < j ∧ j ≤ bs.length) ∧ tk'.length = tk.length + 1 ∧ scanF i (bs.drop i) tk = scanF j (bs.drop j) tk')
    (fun pv M => ∃ a e, pv = sflt a e ∧ scanF i (bs.drop i) tk = .bad a e)) := by
 obtain ⟨A, cap, hvb, hR, hb1, hb2⟩ := id hB
 have hil : i < bs.length := by obtain ⟨c, hc, _⟩ := CZ h0; exact (List.getElem?_eq_some_iff.1 hc).1
 obtain ⟨c0, hc0, hd0⟩ := CZ h0
 obtain ⟨ad0, hA, _⟩ := hR.byte hc0
 subst hA
 subst hvb
 refine CQ (args := [_]) Tryz.func134 rfl Tryz.ntmps134 rfl hO ?_
 unfold scL at ho ⊢
 refine Zs ?_
 refine Zm ?_
 refine Zo (AK rfl rfl) ?_
 refine Zf Bi ?_
 refine Zl AO ?_
 refine Za ?_
 refine Za ?_
 refine Zx <| DC.seq <| DC.block ?_
 refine DC.loop (ι := Nat) (fun j => i ≤ j ∧ j ≤ bs.length ∧ ∀ p, i ≤ p → p < j → digAt bs p = true)
  (fun j => [(0, .pointer (some ⟨gs, 0, none⟩)), (2, .int .i64 i), (3, .int .i64 (numAt bs i j))]) (fun j => [blk gs 176 #[.slice (some ad0) bs.length cap, .int .i64 (j : Nat), vt], slc vt 138 4 (tks tk)]) (fun j => bs.length - j) i ⟨Nat.le_refl _, by omega, fun p h1 h2 => by omega⟩ ⟨rfl, rfl, by simp [numAt, decF, Bf], trivial⟩ (.cons 0 rfl (.cons 0 rfl .nil)) ?_
 rintro j ⟨hij, hjl, hdj⟩
 refine DC.seq <| Zs ?_
 refine Zm ?_
 refine Seq.rel0 rfl rfl (Aq en133 rfl rfl rfl (fun w hw => EO (i := j) (vt := vt) (hw.holds _ (List.mem_cons_self ..)) (hB.keep ho hw))) ?_
 rintro _ rfl
 refine Zx ?_
 refine Zd (fun c1 => ?_) fun c1 => ?_
 ·obtain ⟨c, hcj, hdc⟩ := CZ (bs := bs) (i := j) (by simpa using c1)
  have hcn := LA hdc
  have hjl' : j < bs.length := (List.getElem?_eq_some_iff.1 hcj).1
  have hnb := num_bound hdj hij hjl
  refine DC.skip <| Fin.then <| DC.block <| DC.seq <| Zs ?_
  refine Zm ?_
  refine Zo (AK rfl rfl) ?_
  refine Zf Bi ?_
  refine Zl AO ?_
  refine Zm ?_
  refine Zo (Ca rfl rfl rfl (by omega)) ?_
  refine Zc ?_
  refine Zx ?_
  refine Zd (fun c2 => ?_) fun c2 => ?_
  ·refine AG (cl := [.q, .q, .q, .q, .q, .v, .q, .q, .q, .v, .q, .v, .q, .q, .q, .q]) (A := [0, 1, 0, 4, 12, 28, 0, 64, 192, 448, 1020, 2044, 4092, 8188, 16383, 32767]) (order := [0, 1, 2, 3, 4, 5, 6, 7, 8, 9, 10, 11, 12, 13, 14, 15]) [] mixed (by kernel_rfl) (fun w hw => hw.pick .nil) ?_
   refine Ym ?_
   refine Yo rfl (Cb rfl rfl rfl (by omega)) ?_
   refine Ym ?_
   refine Yo rfl (AK rfl rfl) ?_
   refine Yf C7 ?_
   refine Yl JP ?_
   refine Ym ?_
   refine Yo rfl (AK rfl rfl) ?_
   refine Yf Bi ?_
   refine Yl AO ?_
   refine Yo rfl (Ai (ad' := ad0.add j) rfl rfl rfl Tryz.underlying47 sz5 (by omega) (by omega) (by rw [Int.toNat_natCast])) ?_
   refine Am rfl rfl rfl rfl (Ah rfl rfl ag5 (hB.has ho hcj)) ?_
   refine Yo rfl (p_sub8 rfl rfl rfl (by omega)) ?_
   refine Yo rfl (Kk rfl rfl Tryz.underlying5 Tryz.underlying3 (by omega) (by omega)) ?_
   refine Yo rfl (BN rfl rfl rfl (by omega)) ?_
   refine Yo rfl (Aw rfl rfl) ?_
   refine Flow.end rfl ?_
   simp only [zq, zr]
   refine Fin.then <| DC.region ?_
   refine Zm ?_
   refine Zo (AK rfl rfl) ?_
   refine Zf Bi ?_
   refine Zl AO ?_
   refine Zp ?_
   refine Zo (AK rfl rfl) ?_
   refine Zf Bi ?_
   refine Zy (AF (cs' := #[_, _, _]) rfl rfl rfl AN rfl (Nat.le_of_ble_eq_true rfl) rfl) ?_
   refine Seq.nil <| Fin.inBlock ?_
   have hst := I8 hij hcj
   refine Fin.again (j + 1) (by omega) ⟨by omega, by omega, fun p h1 h2 => ?_⟩ ⟨rfl, rfl, ?_, trivial⟩ (.cons' 0 rfl (by simp) (.cons 0 rfl .nil))
   ·by_cases hp : p = j
    ·subst hp; simpa using c1
    ·exact hdj p h1 (by omega)
   ·rw [hst]
    simp at c2
    first
    | (rw [if_pos (by omega)]; rfl)
    | (rw [if_neg (by omega)]; rfl)
  ·refine DC.skip <| Fin.then <| DC.region ?_
   refine Zm ?_
   refine Zo (AK rfl rfl) ?_
   refine Zf Bi ?_
   refine Zl AO ?_
   refine Zp ?_
   refine Zo (AK rfl rfl) ?_
   refine Zf Bi ?_
   refine Zy (AF (cs' := #[_, _, _]) rfl rfl rfl AN rfl (Nat.le_of_ble_eq_true rfl) rfl) ?_
   refine Seq.nil <| Fin.inBlock ?_
   have hst := I8 hij hcj
   refine Fin.again (j + 1) (by omega) ⟨by omega, by omega, fun p h1 h2 => ?_⟩ ⟨rfl, rfl, ?_, trivial⟩ (.cons' 0 rfl (by simp) (.cons 0 rfl .nil))
   ·by_cases hp : p = j
    ·subst hp; simpa using c1
    ·exact hdj p h1 (by omega)
   ·rw [hst]
    simp at c2
    first
    | (rw [if_pos (by omega)]; rfl)
    | (rw [if_neg (by omega)]; rfl)
 ·refine DC.exit <| Ad <| Ad <| Ag <| Fin.then <| DC.seq <| DC.seq ?_
  have hkd : digs (bs.drop i) = j - i := by
   rw [JD (j - i) i (fun p h1 h2 => CZ (hdj p h1 (by omega))), show i + (j - i) = j by omega, digs_end (fun c hc => by simpa [digAt, hc] using c1), Nat.add_zero]
  have hji : i < j := by
   rcases Nat.lt_or_eq_of_le hij with h | h
   ·exact h
   ·subst h; rw [h0] at c1; simp at c1
  refine DC.region ?_
  refine Zm ?_
  refine Zo (AK rfl rfl) ?_
  refine Zf Bi ?_
  refine Zl AO ?_
  refine Zm ?_
  refine Zo (Ca rfl rfl rfl (by omega)) ?_
  refine Za ?_
  refine Zx <| Zs ?_
  refine Zm ?_
  refine Zo (BH rfl rfl rfl) ?_
  refine Zm ?_
  refine Seq.split 48 rfl (fun k6_2 => ?_) (fun k6_2 => ?_)
  ·refine Zk ?_
   refine Zk ?_
   refine Zk ?_
   refine Zk ?_
   refine Zk ?_
   refine Zk ?_
   refine Zk ?_
   refine Zk ?_
   refine Zk ?_
   refine Zk ?_
   refine Zk ?_
   refine Zk ?_
   refine Zt ?_
   refine Zx ?_
   refine AM rfl ?_
   refine DC.region ?_
   refine Zm ?_
   refine Zo (AD (cs := #[_, _]) rfl rfl LC rfl rfl) ?_
   refine Zo (ED (v := sflt i 12) rfl rfl (fun w => by kernel_rfl)) ?_
   refine Seq.panic rfl rfl rfl ?_
   refine Ao <| ?_
   refine A7 ⟨i, 12, rfl, EP hc0 hd0 hkd ?_⟩
   first
   | (simp at k6_2; omega)
   | (simp at k6_5 c6; omega)
  ·refine Zm ?_
   refine Zo (BH rfl rfl rfl) ?_
   refine Zm ?_
   refine Seq.split 51 rfl (fun k6_5 => ?_) (fun k6_5 => ?_)
   ·refine Zm ?_
    refine Zo (AK rfl rfl) ?_
    refine Zf C7 ?_
    refine Zl JP ?_
    refine Zm ?_
    refine Zo (Ai (ad' := ad0.add i) rfl rfl rfl Tryz.underlying47 sz5 (by omega) (by omega) (by rw [Int.toNat_natCast])) ?_
    refine Zu (Ah rfl rfl ag5 (hB.has ho hc0)) ?_
    refine Zo (AX rfl rfl rfl) ?_
    refine Zt ?_
    refine Zg ?_
    refine Zx ?_
    refine Zd (fun c6 => ?_) fun c6 => ?_
    ·refine DC.region ?_
     refine Zm ?_
     refine Zo (AD (cs := #[_, _]) rfl rfl LC rfl rfl) ?_
     refine Zo (ED (v := sflt i 12) rfl rfl (fun w => by kernel_rfl)) ?_
     refine Seq.panic rfl rfl rfl ?_
     refine Ao <| ?_
     refine A7 ⟨i, 12, rfl, EP hc0 hd0 hkd ?_⟩
     first
     | (simp at k6_2; omega)
     | (simp at k6_5 c6; omega)
    ·refine DC.skip <| Fin.then <| DC.region ?_
     refine Zm ?_
     refine Zm ?_
     refine Zm ?_
     refine Seq.gen rfl rfl (BA Lz rfl rfl rfl (Lc := scL gs (.slice (some ad0) bs.length cap) vt j tk) (F := []) (.refl _) (fun k hk => hk) (fun w hw => Dq hw.self hl)) ?_
     rintro _ _ ⟨_, ⟨rfl, vt', rfl⟩, rfl⟩
     refine Seq.nil ?_
     refine C3 (.inr rfl) (BQ (.inr rfl) rfl ?_)
     have hk9 : ¬(9 < j - i ∨ (1 < j - i ∧ c0.toNat = 48)) := by
      first
      | (simp at k6_2 k6_5 c6; omega)
      | (simp at k6_2 k6_5; omega)
     refine ⟨rfl, vt', j, _, List.append_nil _, ⟨hji, hjl⟩, by simp, ?_⟩
     have := Hh (acc := tk) hc0 hd0 hkd (by omega) (by omega)
     rw [this, show i + (j - i) = j by omega]
     unfold numAt
     rw [show min (j - i) 9 = j - i by omega]
   ·refine Zk ?_
    refine Zk ?_
    refine Zk ?_
    refine Zk ?_
    refine Zk ?_
    refine Zk ?_
    refine Zk ?_
    refine Zk ?_
    refine Zg ?_
    refine Zg ?_
    refine Zx ?_
    refine Bw rfl ?_
    refine DC.skip <| Fin.then <| DC.region ?_
    refine Zm ?_
    refine Zm ?_
    refine Zm ?_
    refine Seq.gen rfl rfl (BA Lz rfl rfl rfl (Lc := scL gs (.slice (some ad0) bs.length cap) vt j tk) (F := []) (.refl _) (fun k hk => hk) (fun w hw => Dq hw.self hl)) ?_
    rintro _ _ ⟨_, ⟨rfl, vt', rfl⟩, rfl⟩
    refine Seq.nil ?_
    refine C3 (.inr rfl) (BQ (.inr rfl) rfl ?_)
    have hk9 : ¬(9 < j - i ∨ (1 < j - i ∧ c0.toNat = 48)) := by
     first
     | (simp at k6_2 k6_5 c6; omega)
     | (simp at k6_2 k6_5; omega)
    refine ⟨rfl, vt', j, _, List.append_nil _, ⟨hji, hjl⟩, by simp, ?_⟩
    have := Hh (acc := tk) hc0 hd0 hkd (by omega) (by omega)
    rw [this, show i + (j - i) = j by omega]
    unfold numAt
    rw [show min (j - i) 9 = j - i by omega]
structure AllI where
 i : Nat
 vt : Value
 tk : List Tk
theorem J7 {gs : Nat} {vb vt : Value} {bs : List UInt8} {w : World} (hO : Own w (idsOf (scL gs vb vt 0 [])) w (scL gs vb vt 0 [])) (hB : ByV w vb bs) (ho : ByO vb bs (idsOf (scL gs vb vt 0 []))) :
  Calls Tryz.prog 106 #[.pointer (some ⟨gs, 0, none⟩)] w
   (RetP w (idsOf (scL gs vb vt 0 [])) (fun r M => r = .tuple #[] ∧ ∃ vt' j tk', M = scL gs vb vt' j tk' ∧ scanA bs = .ok tk' ∧ tk'.length ≤ 33554433)
    (fun pv M => ∃ a e, pv = sflt a e ∧ scanA bs = .bad a e)) := by
 obtain ⟨A, cap, hvb, hR, hb1, hb2⟩ := id hB
 refine CQ (args := [_]) Tryz.func106 rfl Tryz.ntmps106 rfl hO ?_
 subst hvb
 unfold scL at ho ⊢
 refine DC.seq <| Zs ?_
 refine Zm ?_
 refine Zo (AK rfl rfl) ?_
 refine Zf C7 ?_
 refine Zl JP ?_
 refine Zn Tryz.underlying47 ?_
 refine Zo (BH rfl rfl rfl) ?_
 refine Zx ?_
 refine Zd (fun c0 => ?_) fun c0 => ?_
 ·refine DC.region ?_
  refine Zo (AD (cs := #[_, _]) rfl rfl LC rfl rfl) ?_
  refine Zo (ED (v := sflt 33554432 10) rfl rfl (fun w => by kernel_rfl)) ?_
  refine Seq.panic rfl rfl rfl ?_
  refine Ao <| ?_
  refine A7 ⟨33554432, 10, rfl, ?_⟩
  have : 33554432 < bs.length := by simp at c0; omega
  simp [scanA, this]
 ·have hlen : bs.length ≤ 33554432 := by simp at c0; omega
  have hsA : scanA bs = scanF 0 bs [] := by rw [scanA, if_neg (by omega)]
  refine DC.skip <| Fin.then <| DC.seq <| DC.block ?_
  refine DC.loop (ι := AllI) (fun j => j.i ≤ bs.length ∧ j.tk.length ≤ j.i ∧ scanA bs = scanF j.i (bs.drop j.i) j.tk)
   (fun j => [(0, .pointer (some ⟨gs, 0, none⟩))]) (fun j => [blk gs 176 #[.slice A bs.length cap, .int .i64 (j.i : Nat), j.vt], slc j.vt 138 4 (tks j.tk)]) (fun j => bs.length - j.i) ⟨0, vt, []⟩ ⟨by simp, by simp, hsA⟩ ⟨rfl, trivial⟩ (.cons 0 rfl (.cons 0 rfl .nil)) ?_
  rintro ⟨i, vt, tk⟩ ⟨hi, htl, hsc⟩
  dsimp only at hi htl hsc ⊢
  refine DC.seq <| DC.seq ?_
  refine AG (cl := [.q, .q, .q, .v, .q, .q, .q, .v, .q, .q]) (A := [0, 1, 3, 7, 0, 16, 48, 112, 240, 511]) (order := [0, 1, 2, 3, 4, 5, 6, 7, 8, 9]) [] mixed (by kernel_rfl) (fun w hw => hw.pick .nil) ?_
  refine Ym ?_
  refine Yo rfl (AK rfl rfl) ?_
  refine Yf Bi ?_
  refine Yl AO ?_
  refine Ym ?_
  refine Yo rfl (AK rfl rfl) ?_
  refine Yf C7 ?_
  refine Yl JP ?_
  refine Yo rfl (BM rfl rfl Tryz.underlying47) ?_
  refine Yo rfl (Cj rfl rfl rfl) ?_
  refine Flow.end rfl ?_
  simp only [zq, zr]
  refine Fin.then ?_
  refine Zd (fun c2 => ?_) fun c2 => ?_
  ·have hil : i < bs.length := by simpa using c2
   obtain ⟨c, hc⟩ : ∃ c, bs[i]? = some c := ⟨_, List.getElem?_eq_getElem hil⟩
   obtain ⟨ad, rfl, hcell⟩ := hR.byte hc
   refine DC.skip <| Fin.then <| DC.block <| DC.seq ?_
   refine AG (cl := [.q, .q, .q, .v, .q, .q, .q, .v, .q, .v, .q]) (A := [0, 1, 3, 7, 0, 16, 48, 112, 255, 511, 1023]) (order := [0, 1, 2, 3, 4, 5, 6, 7, 8, 9, 10]) [] mixed (by kernel_rfl) (fun w hw => hw.pick .nil) ?_
   refine Ym ?_
   refine Yo rfl (AK rfl rfl) ?_
   refine Yf C7 ?_
   refine Yl JP ?_
   refine Ym ?_
   refine Yo rfl (AK rfl rfl) ?_
   refine Yf Bi ?_
   refine Yl AO ?_
   refine Yo rfl (Ai (ad' := ad.add i) rfl rfl rfl Tryz.underlying47 sz5 (by omega) (by omega) (by rw [Int.toNat_natCast])) ?_
   refine Am rfl rfl rfl rfl (Ah rfl rfl ag5 (hB.has ho hc)) ?_
   refine Yo rfl (Aw rfl rfl) ?_
   refine Flow.end rfl ?_
   simp only [zq, zr]
   refine Fin.then <| DC.block <| Zs ?_
   refine Zm ?_
   refine Seq.rel0 rfl rfl (Aq en133 rfl rfl rfl (fun w hw => EO (i := i) (vt := vt) (hw.holds _ (List.mem_cons_self ..)) (hB.keep ho hw))) ?_
   rintro _ rfl
   refine Za ?_
   refine Zx ?_
   refine Zd (fun c5 => ?_) fun c5 => ?_
   ·have hd : digAt bs i = true := by simpa using c5
    refine DC.region ?_
    refine Zm ?_
    refine Dk rfl rfl en134 rfl rfl rfl (Lc := scL gs (.slice (some ad) bs.length cap) vt i tk) (F := []) (.refl _) (fun k hk => hk) (fun w hw => J3 hw.self (hB.keep ho hw) (ByO.step hB ho hw) (by omega) hlen hd) ?_ ?_
    ·rintro pv L' ⟨a, e, rfl, h⟩
     refine AB <| AB <| Ao <| AB <| Ao <| ?_
     exact A7 ⟨a, e, rfl, hsc.trans h⟩
    rintro _ _ ⟨rfl, vt', j, tk', rfl, ⟨hj, hj2⟩, htk, hsc'⟩
    refine Seq.nil <| Fin.inBlock <| Fin.inBlock ?_
    refine Fin.again ⟨j, vt', tk'⟩ (by dsimp only; omega) ⟨by dsimp only; omega, by dsimp only; omega, hsc.trans hsc'⟩ ⟨rfl, trivial⟩ (.cons 0 rfl (.cons 0 rfl .nil))
   ·have hd : isDig c = false := by simpa [digAt, hc] using c5
    refine Zs ?_
    refine Zm ?_
    refine Zo (AX rfl rfl rfl) ?_
    refine Za ?_
    refine Zx ?_
    refine Zd (fun c7 => ?_) fun c7 => ?_
    ·have hc10 : c.toNat = 10 := by simp at c7; omega
     have hst := J6 (acc := tk) hc hd hc10
     refine Zs ?_
     refine Zm ?_
     refine Zo (AK rfl rfl) ?_
     refine Zf Bi ?_
     refine Zl AO ?_
     refine Zp ?_
     refine Zo (AK rfl rfl) ?_
     refine Zf Bi ?_
     refine Zy (AF (cs' := #[_, _, _]) rfl rfl rfl AN rfl (Nat.le_of_ble_eq_true rfl) rfl) ?_
     refine Seq.nil ?_
     rw [show ((i : Int) + 1) = ((i + 1 : Nat) : Int) from rfl]
     refine Fin.then <| DC.region ?_
     refine Zm ?_
     refine Zm ?_
     refine Zo (AK rfl rfl) ?_
     refine Zf Bi ?_
     refine Zl AO ?_
     refine Zo (Ca rfl rfl rfl (by omega)) ?_
     refine Seq.gen rfl rfl (BA Lz rfl rfl rfl (Lc := scL gs (.slice (some ad) bs.length cap) vt (i + 1) tk) (F := []) (.refl _) (fun k hk => hk) (fun w hw => Dq hw.self (by omega))) ?_
     rintro _ _ ⟨_, ⟨rfl, vt', rfl⟩, rfl⟩
     rw [show ((i + 1 : Nat) : Int) - 1 = (i : Int) by omega]
     refine Seq.nil <| Fin.inBlock <| Fin.inBlock ?_
     refine Fin.again ⟨i + 1, vt', tk ++ [⟨2, i, (i + 1 : Nat), 0⟩]⟩ (by dsimp only; omega) ⟨by dsimp only; omega, by simp; omega, hsc.trans hst⟩ ⟨rfl, trivial⟩ (.cons 0 rfl (.cons 0 rfl .nil))
    ·have hc10 : c.toNat ≠ 10 := by simp at c7; omega
     refine Zs ?_
     refine Zm ?_
     refine Zo (AX rfl rfl rfl) ?_
     refine Zm ?_
     refine Seq.split 62 rfl (fun k10_2 => ?_) (fun k10_2 => ?_)
     ·refine Zk ?_
      refine Zk ?_
      refine Zt ?_
      refine Zm ?_
      refine Zk ?_
      refine Zk ?_
      refine Zt ?_
      refine Za ?_
      refine Zx ?_
      refine AM rfl ?_
      refine DC.region ?_
      refine Zm ?_
      refine Zo (AK rfl rfl) ?_
      refine Zf Bi ?_
      refine Zl AO ?_
      refine Zp ?_
      refine Zo (AK rfl rfl) ?_
      refine Zf Bi ?_
      refine Zy (AF (cs' := #[_, _, _]) rfl rfl rfl AN rfl (Nat.le_of_ble_eq_true rfl) rfl) ?_
      refine Seq.nil ?_
      rw [show ((i : Int) + 1) = ((i + 1 : Nat) : Int) from rfl]
      refine Fin.inBlock <| Fin.inBlock ?_
      refine Fin.again ⟨i + 1, vt, tk⟩ (by dsimp only; omega) ⟨by dsimp only; omega, by dsimp only; omega, hsc.trans (Fh hc hd hc10 ?_)⟩ ⟨rfl, trivial⟩ (.cons 0 rfl (.cons 0 rfl .nil))
      first
      | (simp at k10_2; omega)
      | (simp at k10_6; omega)
      | (simp at c10; omega)
     ·refine Zm ?_
      refine Zo (AX rfl rfl rfl) ?_
      refine Zg ?_
      refine Zm ?_
      refine Seq.split 66 rfl (fun k10_6 => ?_) (fun k10_6 => ?_)
      ·refine Zk ?_
       refine Zk ?_
       refine Zt ?_
       refine Za ?_
       refine Zx ?_
       refine AM rfl ?_
       refine DC.region ?_
       refine Zm ?_
       refine Zo (AK rfl rfl) ?_
       refine Zf Bi ?_
       refine Zl AO ?_
       refine Zp ?_
       refine Zo (AK rfl rfl) ?_
       refine Zf Bi ?_
       refine Zy (AF (cs' := #[_, _, _]) rfl rfl rfl AN rfl (Nat.le_of_ble_eq_true rfl) rfl) ?_
       refine Seq.nil ?_
       rw [show ((i : Int) + 1) = ((i + 1 : Nat) : Int) from rfl]
       refine Fin.inBlock <| Fin.inBlock ?_
       refine Fin.again ⟨i + 1, vt, tk⟩ (by dsimp only; omega) ⟨by dsimp only; omega, by dsimp only; omega, hsc.trans (Fh hc hd hc10 ?_)⟩ ⟨rfl, trivial⟩ (.cons 0 rfl (.cons 0 rfl .nil))
       first
       | (simp at k10_2; omega)
       | (simp at k10_6; omega)
       | (simp at c10; omega)
      ·refine Zm ?_
       refine Zo (AX rfl rfl rfl) ?_
       refine Zg ?_
       refine Za ?_
       refine Zx ?_
       refine Zd (fun c10 => ?_) fun c10 => ?_
       ·refine DC.region ?_
        refine Zm ?_
        refine Zo (AK rfl rfl) ?_
        refine Zf Bi ?_
        refine Zl AO ?_
        refine Zp ?_
        refine Zo (AK rfl rfl) ?_
        refine Zf Bi ?_
        refine Zy (AF (cs' := #[_, _, _]) rfl rfl rfl AN rfl (Nat.le_of_ble_eq_true rfl) rfl) ?_
        refine Seq.nil ?_
        rw [show ((i : Int) + 1) = ((i + 1 : Nat) : Int) from rfl]
        refine Fin.inBlock <| Fin.inBlock ?_
        refine Fin.again ⟨i + 1, vt, tk⟩ (by dsimp only; omega) ⟨by dsimp only; omega, by dsimp only; omega, hsc.trans (Fh hc hd hc10 ?_)⟩ ⟨rfl, trivial⟩ (.cons 0 rfl (.cons 0 rfl .nil))
        first
        | (simp at k10_2; omega)
        | (simp at k10_6; omega)
        | (simp at c10; omega)
       ·refine DC.region ?_
        refine Zm ?_
        refine Zo (AK rfl rfl) ?_
        refine Zf Bi ?_
        refine Zl AO ?_
        refine Zo (AD (cs := #[_, _]) rfl rfl LC rfl rfl) ?_
        refine Zo (ED (v := sflt i 11) rfl rfl (fun w => by kernel_rfl)) ?_
        refine Seq.panic rfl rfl rfl ?_
        refine AB <| AB <| Ao <| AB <| Ao <| ?_
        exact A7 ⟨i, 11, rfl, hsc.trans (LP hc hd hc10 (by simp at k10_2 k10_6 c10; omega))⟩
  ·refine DC.exit <| Ad <| Ad <| Ag <| Fin.then <| DC.region ?_
   refine Zm ?_
   refine Zm ?_
   refine Zo (AK rfl rfl) ?_
   refine Zf Bi ?_
   refine Zl AO ?_
   refine Seq.gen rfl rfl (BA Lz rfl rfl rfl (Lc := scL gs (.slice A bs.length cap) vt i tk) (F := []) (.refl _) (fun k hk => hk) (fun w hw => Dq hw.self (by omega))) ?_
   rintro _ _ ⟨_, ⟨rfl, vt', rfl⟩, rfl⟩
   refine Seq.nil ?_
   refine C3 (.inr rfl) (BQ (.inr rfl) rfl ?_)
   have hil : i = bs.length := by simp at c2; omega
   refine ⟨rfl, vt', i, _, List.append_nil _, ?_, by simp; omega⟩
   rw [hsc, LO (by omega) (by omega)]
theorem G0 {v e : Int} {x y z : Value} {ga gb gc : Nat} {w : World} (hO : Own w [ga, gb, gc] w [blk ga 131 #[x], blk gb 3 #[y], blk gc 29 #[z]]) :
  CallsD Tryz.prog 105 #[.pointer (some ⟨ga, 0, none⟩), .pointer (some ⟨gb, 0, none⟩), .pointer (some ⟨gc, 0, none⟩)] (.panicking (onePanic (sflt v e))) w
   fun e' u' w' => u' = .panicking [{ v := sflt v e, recovered := true }] ∧ Ret w [ga, gb, gc] (fun r M => M = [blk ga 131 #[.slice none 0 0], blk gb 3 #[.int .i64 v], blk gc 29 #[.int .i64 e]]) e' w' := by
 refine DG (args := [_, _, _]) Tryz.func105 rfl Tryz.ntmps105 rfl rfl rfl rfl rfl rfl rfl rfl (.some _ []) hO ?_
 refine Zs ?_
 refine Zm ?_
 refine Zo (K9 (b := true) rfl rfl rfl (fun w => by kernel_rfl)) ?_
 refine Zx ?_
 refine AM rfl ?_
 refine Zs ?_
 refine Zm ?_
 refine Zo (CB (v := .tuple #[.agg #[.int .i64 v, .int .i64 e], .bool true]) rfl rfl (fun w => by kernel_rfl)) ?_
 refine Zm ?_
 refine Ze ?_
 refine Ze ?_
 refine Zw (AH rfl ze172 rfl) fun g4 => ?_
 refine Zy (AA (cs' := #[_, _]) rfl rfl rfl sz172 rfl (Nat.le_of_ble_eq_true rfl) rfl) ?_
 refine Za ?_
 refine Zx <| DC.seq <| Zs ?_
 refine Zm ?_
 refine Zo (Bh rfl rfl) ?_
 refine Zx ?_
 refine Bw rfl ?_
 refine DC.skip <| Fin.then ?_
 refine AG (cl := [.q, .q, .q, .q, .g, .g, .g]) (A := [0, 1, 0, 4, 0, 19, 63]) (order := [0, 1, 2, 3, 4, 5, 6]) ([blk g4 172 #[.int .i64 v, .int .i64 e]]) mixed (by kernel_rfl) (fun w hw => hw.pick (.cons 0 rfl .nil)) ?_
 refine Yf fi172_0 ?_
 refine Flow.old rfl rfl rfl (Ah rfl rfl AO (BD rfl)) ?_
 refine Yf fi172_1 ?_
 refine Flow.old rfl rfl rfl (Ah rfl rfl GV (BD rfl)) ?_
 refine AL rfl rfl rfl rfl (AF (cs' := #[_]) rfl rfl rfl sz131 rfl (Nat.le_of_ble_eq_true rfl) rfl) (fun w hw => hw.pick (.cons 0 rfl .nil)) ?_
 refine AL rfl rfl rfl rfl (AF (cs' := #[_]) rfl rfl rfl AN rfl (Nat.le_of_ble_eq_true rfl) rfl) (fun w hw => hw.pick (.cons 0 rfl .nil)) ?_
 refine AL rfl rfl rfl rfl (AF (cs' := #[_]) rfl rfl rfl sz29 rfl (Nat.le_of_ble_eq_true rfl) rfl) (fun w hw => hw.pick (.cons 0 rfl .nil)) ?_
 refine Flow.end rfl ?_
 simp only [zq, zr]
 refine Fin.weak (E' := []) trivial (.cons 1 rfl (.cons 1 rfl (.cons 1 rfl .nil))) ?_
 refine BQ (.inr rfl) rfl ?_
 rfl
theorem G1 {x y z : Value} {ga gb gc : Nat} {w : World} (hO : Own w [ga, gb, gc] w [blk ga 131 #[x], blk gb 3 #[y], blk gc 29 #[z]]) :
  CallsD Tryz.prog 105 #[.pointer (some ⟨ga, 0, none⟩), .pointer (some ⟨gb, 0, none⟩), .pointer (some ⟨gc, 0, none⟩)] .returning w
   fun e' u' w' => u' = .returning ∧ Ret w [ga, gb, gc] (fun r M => M = [blk ga 131 #[x], blk gb 3 #[y], blk gc 29 #[z]]) e' w' := by
 refine DG (args := [_, _, _]) Tryz.func105 rfl Tryz.ntmps105 rfl rfl rfl rfl rfl rfl rfl rfl .none hO ?_
 refine Zs ?_
 refine Zm ?_
 refine Zo (I1 (b := false) rfl rfl (fun w => by kernel_rfl)) ?_
 refine Zx ?_
 refine Bw rfl ?_
 refine DC.skip ?_
 refine BQ (.inr rfl) rfl ?_
 rfl
theorem own3 {w0 w : World} {K : List Nat} {ga gb gc t t' t'' : Nat} {x y z : Array Value} {F : List Chunk} (h : Own w0 K w (blk ga t x :: blk gb t' y :: blk gc t'' z :: F)) : Own w [ga, gb, gc] w [blk ga t x, blk gb t' y, blk gc t'' z] :=
 (h.sub (L' := [blk ga t x, blk gb t' y, blk gc t'' z]) (by simp)).self
/-- What nums.Scan answers. -/
def ScanR (bs : List UInt8) (r : Value) (M : List Chunk) : Prop :=
 (∃ tk vt, scanA bs = .ok tk ∧ tk.length ≤ 33554433 ∧ r = .tuple #[vt, .int .i64 0, .int .i64 0] ∧ M = [slc vt 138 4 (tks tk)]) ∨
 (∃ a e, scanA bs = .bad a e ∧ r = .tuple #[.slice none 0 0, .int .i64 a, .int .i64 e] ∧ M = [])
theorem KR {vb : Value} {bs : List UInt8} {w : World} (hB : ByV w vb bs) :
  Calls Tryz.prog 72 #[vb] w (Ret w [] (ScanR bs)) := by
 have ho : ByO vb bs [] := fun _ _ _ _ _ h => by simp at h
 obtain ⟨A, cb, hvb⟩ := hB.len
 subst hvb
 refine HH (K := []) (args := [_]) (L := []) Tryz.func72 rfl Tryz.ntmps72 rfl (Own.start _ _) ?_
 refine Zs ?_
 refine Zw (AH rfl ze131 rfl) fun g2 => ?_
 refine Zw (AH rfl B6 rfl) fun g3 => ?_
 refine Zw (AH rfl ze29 rfl) fun g4 => ?_
 refine Zx <| Zs ?_
 refine Zo (Fr rfl rfl rfl) ?_
 refine Seq.defer rfl rfl rfl rfl ?_
 refine Zx <| Zs ?_
 refine Zm ?_
 refine Zo (AD (cs := #[_, _, _]) rfl rfl bs176 rfl rfl) ?_
 refine Zw (AS rfl rfl rfl) fun g9 => ?_
 refine Za ?_
 refine Zx <| DC.seq ?_
 refine DC.own (fun w hw => Bm (t := 138) (m := 4) hw) ?_
 refine DC.region ?_
 refine Zm ?_
 refine Dk rfl rfl en106 rfl rfl rfl (Lc := scL g9 (.slice A bs.length cb) (.slice none 0 0) 0 []) (F := [blk g4 29 #[.int .i64 0], blk g3 3 #[.int .i64 0], blk g2 131 #[.slice none 0 0]]) (.swap _ _ _) (fun k hk => hk) (fun w hw => J7 (hw.pick (L' := scL g9 (.slice A bs.length cb) (.slice none 0 0) 0 []) (.cons 1 rfl (.cons 0 rfl .nil))).self (hB.keep ho hw) (ByO.step hB ho (hw.pick (L' := scL g9 (.slice A bs.length cb) (.slice none 0 0) 0 []) (.cons 1 rfl (.cons 0 rfl .nil))))) ?_ ?_
 ·rintro pv M ⟨a, e, rfl, hsc⟩
  refine Ao <| ?_
  refine GY ?_
  refine Fin.leaves (f := 105) (cap := [.pointer (some ⟨g2, 0, none⟩), .pointer (some ⟨g3, 0, none⟩), .pointer (some ⟨g4, 0, none⟩)]) (Lc := [blk g2 131 #[.slice none 0 0], blk g3 3 #[.int .i64 0], blk g4 29 #[.int .i64 0]]) (F := M) en105 (by simp) rfl
   ((List.perm_append_comm (l₁ := M)).trans (List.Perm.append_right M (List.reverse_perm [blk g2 131 #[.slice none 0 0], blk g3 3 #[.int .i64 0], blk g4 29 #[.int .i64 0]]))) (fun k hk => by simpa [blk] using hk) (fun w' hw => G0 (own3 (hw.perm ((List.perm_append_comm (l₁ := M)).trans (List.Perm.append_right M (List.reverse_perm [blk g2 131 #[.slice none 0 0], blk g3 3 #[.int .i64 0], blk g4 29 #[.int .i64 0]]))).symm))) ?_
  rintro r L' rfl a' w' ha hw
  have e2 : a'.tmps.getD 2 undef = .pointer (some ⟨g2, 0, none⟩) := by have := ha.ev (x := .tmp 2) (v := .pointer (some ⟨g2, 0, none⟩)) rfl; simpa only [Act.eval] using this
  have e3 : a'.tmps.getD 3 undef = .pointer (some ⟨g3, 0, none⟩) := by have := ha.ev (x := .tmp 3) (v := .pointer (some ⟨g3, 0, none⟩)) rfl; simpa only [Act.eval] using this
  have e4 : a'.tmps.getD 4 undef = .pointer (some ⟨g4, 0, none⟩) := by have := ha.ev (x := .tmp 4) (v := .pointer (some ⟨g4, 0, none⟩)) rfl; simpa only [Act.eval] using this
  exact ⟨_, Hk rfl e2 e3 e4 (BY (hw.holds (blk g2 131 #[.slice none 0 0]) (by simp)) LF rfl) (BY (hw.holds (blk g3 3 #[.int .i64 a]) (by simp)) AO rfl) (BY (hw.holds (blk g4 29 #[.int .i64 e]) (by simp)) GV rfl),
   _, [], rfl, .inr ⟨a, e, hsc, rfl, rfl⟩, hw.sub (by simp)⟩
 rintro _ _ ⟨rfl, vt', j, tk', rfl, hsc, htl⟩
 unfold scL
 simp only [List.cons_append, List.nil_append]
 refine Zx <| DC.seq ?_
 refine DC.shape 1 rfl ?_
 rintro ⟨A5, l5, c5, rfl⟩
 refine DC.region ?_
 refine Zm ?_
 refine Zo (AK rfl rfl) ?_
 refine Zf Ik ?_
 refine Zl LF ?_
 refine Zy (AF (cs' := #[_]) rfl rfl rfl sz131 rfl (Nat.le_of_ble_eq_true rfl) rfl) ?_
 refine Zy (AF (cs' := #[_]) rfl rfl rfl AN rfl (Nat.le_of_ble_eq_true rfl) rfl) ?_
 refine Zy (AF (cs' := #[_]) rfl rfl rfl sz29 rfl (Nat.le_of_ble_eq_true rfl) rfl) ?_
 refine Zx <| DC.ret ?_
 refine JW ?_
 refine Fin.leaves (f := 105) (cap := [.pointer (some ⟨g2, 0, none⟩), .pointer (some ⟨g3, 0, none⟩), .pointer (some ⟨g4, 0, none⟩)]) (Lc := [blk g2 131 #[.slice A5 l5 c5], blk g3 3 #[.int .i64 0], blk g4 29 #[.int .i64 0]]) (F := [slc (.slice A5 l5 c5) 138 4 (tks tk'), blk g9 176 #[.slice A bs.length cb, .int .i64 j, (.slice A5 l5 c5)]]) en105 (by simp) rfl
  (List.reverse_perm [blk g2 131 #[.slice A5 l5 c5], blk g3 3 #[.int .i64 0], blk g4 29 #[.int .i64 0], slc (.slice A5 l5 c5) 138 4 (tks tk'), blk g9 176 #[.slice A bs.length cb, .int .i64 j, (.slice A5 l5 c5)]]) (fun k hk => by simpa [blk] using hk) (fun w' hw => G1 (own3 (hw.perm (List.reverse_perm [blk g2 131 #[.slice A5 l5 c5], blk g3 3 #[.int .i64 0], blk g4 29 #[.int .i64 0], slc (.slice A5 l5 c5) 138 4 (tks tk'), blk g9 176 #[.slice A bs.length cb, .int .i64 j, .slice A5 l5 c5]]).symm))) ?_
 rintro r L' rfl a' w' ha hw
 have e2 : a'.tmps.getD 2 undef = .pointer (some ⟨g2, 0, none⟩) := by have := ha.ev (x := .tmp 2) (v := .pointer (some ⟨g2, 0, none⟩)) rfl; simpa only [Act.eval] using this
 have e3 : a'.tmps.getD 3 undef = .pointer (some ⟨g3, 0, none⟩) := by have := ha.ev (x := .tmp 3) (v := .pointer (some ⟨g3, 0, none⟩)) rfl; simpa only [Act.eval] using this
 have e4 : a'.tmps.getD 4 undef = .pointer (some ⟨g4, 0, none⟩) := by have := ha.ev (x := .tmp 4) (v := .pointer (some ⟨g4, 0, none⟩)) rfl; simpa only [Act.eval] using this
 exact ⟨_, Hk rfl e2 e3 e4 (BY (hw.holds (blk g2 131 #[.slice A5 l5 c5]) (by simp)) LF rfl) (BY (hw.holds (blk g3 3 #[.int .i64 0]) (by simp)) AO rfl) (BY (hw.holds (blk g4 29 #[.int .i64 0]) (by simp)) GV rfl),
  _, [slc (.slice A5 l5 c5) 138 4 (tks tk')], rfl, .inl ⟨tk', (.slice A5 l5 c5), hsc, htl, rfl, rfl⟩, hw.sub (by simp)⟩
def liL (gr : Nat) (vp : Value) (s : RdS) (vl : Value) (tk : List Tk) : List Chunk :=
 [blk gr 135 #[.int .i64 s.n, vp, .bool s.hd, .int .i64 s.m], slc vp 35 2 (prs s.ps), slc vl 138 4 (tks tk)]
def LineR (gr : Nat) (s : RdS) (vl : Value) (tk : List Tk) (r : Value) (M : List Chunk) : Prop :=
 (∃ s' vp', lineF s tk = .ok s' ∧ r = .agg #[.int .i64 0, .int .i64 0] ∧ M = liL gr vp' s' vl tk) ∨ (∃ c a, lineF s tk = .bad c a ∧ c ≠ 0 ∧ r = .agg #[.int .i64 c, .int .i64 a])
theorem IV {gr : Nat} {vp vl : Value} {s : RdS} {tk : List Tk} {w : World} (hO : Own w (idsOf (liL gr vp s vl tk)) w (liL gr vp s vl tk)) (h0 : tk ≠ []) (hl : tk.length ≤ 100000000) (hp : s.ps.length ≤ 100000000) :
  Calls Tryz.prog 73 #[.pointer (some ⟨gr, 0, none⟩), vl] w (Ret w (idsOf (liL gr vp s vl tk)) (LineR gr s vl tk)) := by
 obtain ⟨A, cl, rfl, hR, hl1, hl2⟩ := HN hO 2 rfl
 obtain ⟨t, tr, rfl⟩ : ∃ t tr, tk = t :: tr := by cases tk with | nil => exact absurd rfl h0 | cons a b => exact ⟨a, b, rfl⟩
 obtain ⟨ad, rfl, _⟩ := hR.tk (i := 0) rfl
 obtain ⟨Ap, cp, rfl, _⟩ := Ci hO 1 rfl (by omega)
 refine At (args := [_, _]) Tryz.func73 rfl Tryz.ntmps73 rfl hO ?_
 unfold liL
 refine Zs ?_
 refine Zw (AH rfl LI rfl) fun g4 => ?_
 refine Zx <| DC.seq <| Zs ?_
 refine Zm ?_
 refine Zo (AK rfl rfl) ?_
 refine Zf In ?_
 refine Zl ag4 ?_
 refine Zo (Bh rfl rfl) ?_
 refine Zx ?_
 refine Zd (fun c1 => ?_) fun c1 => ?_
 ·have hh : s.hd = false := by simpa using c1
  refine DC.seq <| DC.block <| Zs ?_
  refine Zm ?_
  refine Zn Tryz.underlying131 ?_
  refine Zo (BS rfl rfl rfl) ?_
  refine Za ?_
  refine Zx ?_
  refine Zd (fun c2 => ?_) fun c2 => ?_
  ·have hr : tr.length ≠ 1 := by simp at c2; omega
   refine Zs ?_
   refine Zm ?_
   refine Zo (AQ (ad' := ad.add (0 * 4)) rfl rfl rfl Tryz.underlying131 B2 (by omega) (by simp) rfl) ?_
   refine Zf Em ?_
   refine Zu (Ah rfl rfl AO (CW (i := 3) (j := 0) rfl rfl 1 rfl)) ?_
   refine Zo (AD (cs := #[_, _]) rfl rfl FD rfl rfl) ?_
   refine Zy (AA (cs' := #[_, _]) rfl rfl rfl B1 rfl (Nat.le_of_ble_eq_true rfl) rfl) ?_
   refine Zx <| DC.ret <| Ae <| Aa <| Aa ?_
   refine BX (cs := #[_, _]) (.inl rfl) rfl rfl Eb B1 ?_
   refine ⟨_, fun w hw => hw, .inr ⟨20, t.fr, ?_, by decide, rfl⟩⟩
   unfold lineF; simp only [hh, if_true]
   split
   ·simp at hr
   ·rfl
  ·have hr : tr.length = 1 := by simp at c2; omega
   obtain ⟨u, rfl⟩ := List.length_eq_one_iff.1 hr
   refine Zs ?_
   refine Zm ?_
   refine Zo (AQ (ad' := ad.add (0 * 4)) rfl rfl rfl Tryz.underlying131 B2 (by omega) (by simp) rfl) ?_
   refine Zf DB ?_
   refine Zu (Ah rfl rfl AO (CW (i := 3) (j := 0) rfl rfl 3 rfl)) ?_
   refine Zo (BH rfl rfl rfl) ?_
   refine Za ?_
   refine Zx ?_
   refine Zd (fun c4 => ?_) fun c4 => ?_
   ·refine Zs ?_
    refine Zm ?_
    refine Zo (AQ (ad' := ad.add (0 * 4)) rfl rfl rfl Tryz.underlying131 B2 (by omega) (by simp) rfl) ?_
    refine Zf Em ?_
    refine Zu (Ah rfl rfl AO (CW (i := 3) (j := 0) rfl rfl 1 rfl)) ?_
    refine Zo (AD (cs := #[_, _]) rfl rfl FD rfl rfl) ?_
    refine Zy (AA (cs' := #[_, _]) rfl rfl rfl B1 rfl (Nat.le_of_ble_eq_true rfl) rfl) ?_
    refine Zx <| DC.ret <| Ae <| Aa <| Aa ?_
    refine BX (cs := #[_, _]) (.inl rfl) rfl rfl Eb B1 ?_
    refine ⟨_, fun w hw => hw, .inr ⟨21, t.fr, ?_, by decide, rfl⟩⟩
    simp at c4
    simp [lineF, hh, c4]
   ·refine Zs ?_
    refine Zm ?_
    refine Zo (AQ (ad' := ad.add (1 * 4)) rfl rfl rfl Tryz.underlying131 B2 (by omega) (by simp) rfl) ?_
    refine Zf DB ?_
    refine Zu (Ah rfl rfl AO (CW (i := 3) (j := 1) rfl rfl 3 rfl)) ?_
    refine Zo (BH rfl rfl rfl) ?_
    refine Za ?_
    refine Zx ?_
    refine Zd (fun c6 => ?_) fun c6 => ?_
    ·refine Zs ?_
     refine Zm ?_
     refine Zo (AQ (ad' := ad.add (1 * 4)) rfl rfl rfl Tryz.underlying131 B2 (by omega) (by simp) rfl) ?_
     refine Zf Em ?_
     refine Zu (Ah rfl rfl AO (CW (i := 3) (j := 1) rfl rfl 1 rfl)) ?_
     refine Zo (AD (cs := #[_, _]) rfl rfl FD rfl rfl) ?_
     refine Zy (AA (cs' := #[_, _]) rfl rfl rfl B1 rfl (Nat.le_of_ble_eq_true rfl) rfl) ?_
     refine Zx <| DC.ret <| Ae <| Aa <| Aa ?_
     refine BX (cs := #[_, _]) (.inl rfl) rfl rfl Eb B1 ?_
     refine ⟨_, fun w hw => hw, .inr ⟨22, u.fr, ?_, by decide, rfl⟩⟩
     simp at c4 c6
     simp [lineF, hh, c6]
     try omega
    ·refine DC.skip <| Fin.inBlock <| Fin.then <| DC.seq ?_
     refine AG (cl := [.q, .q, .q, .q, .q, .q, .q, .q, .q, .q, .q, .q, .q, .g, .q, .q, .q, .g, .q, .q, .g]) (A := [0, 0, 0, 0, 8, 24, 56, 0, 128, 384, 896, 2041, 4089, 8185, 16379, 32763, 65531, 131067, 262143, 524287, 1048575]) (order := [0, 1, 2, 3, 4, 5, 6, 7, 8, 9, 10, 11, 12, 13, 14, 15, 16, 17, 18, 19, 20]) ([slc (.slice (some ad) _ cl) 138 4 (tks [t, u])]) mixed (by kernel_rfl) (fun w hw => hw.pick (.cons 3 rfl .nil)) ?_
     refine Ym ?_
     refine Ym ?_
     refine Ym ?_
     refine Ym ?_
     refine Yo rfl (AQ (ad' := ad.add (0 * 4)) rfl rfl rfl Tryz.underlying131 B2 (by omega) (by simp) rfl) ?_
     refine Yf DB ?_
     refine Flow.old rfl rfl rfl (Ah rfl rfl AO (CW (i := 0) (j := 0) rfl rfl 3 rfl)) ?_
     refine Ym ?_
     refine Yo rfl (AQ (ad' := ad.add (1 * 4)) rfl rfl rfl Tryz.underlying131 B2 (by omega) (by simp) rfl) ?_
     refine Yf DB ?_
     refine Flow.old rfl rfl rfl (Ah rfl rfl AO (CW (i := 0) (j := 1) rfl rfl 3 rfl)) ?_
     refine Yo rfl (AK rfl rfl) ?_
     refine Yf In ?_
     refine AL rfl rfl rfl rfl (AF (cs' := #[_, _, _, _]) rfl rfl rfl Fe rfl (Nat.le_of_ble_eq_true rfl) rfl) (fun w hw => hw.pick (.cons 3 rfl .nil)) ?_
     refine Yo rfl (AK rfl rfl) ?_
     refine Yf DD ?_
     refine Yf fi84_0 ?_
     refine AL rfl rfl rfl rfl (AF (cs' := #[_, _, _, _]) rfl rfl rfl AN rfl (Nat.le_of_ble_eq_true rfl) rfl) (fun w hw => hw.pick (.cons 3 rfl .nil)) ?_
     refine Yo rfl (AK rfl rfl) ?_
     refine Yf Im ?_
     refine AL rfl rfl rfl rfl (AF (cs' := #[_, _, _, _]) rfl rfl rfl AN rfl (Nat.le_of_ble_eq_true rfl) rfl) (fun w hw => hw.pick (.cons 3 rfl .nil)) ?_
     refine Flow.end rfl ?_
     simp only [zq, zr]
     refine Fin.then <| Zs ?_
     refine Zo (AD (cs := #[_, _]) rfl rfl FD rfl rfl) ?_
     refine Zy (AA (cs' := #[_, _]) rfl rfl rfl B1 rfl (Nat.le_of_ble_eq_true rfl) rfl) ?_
     refine Zx <| DC.ret <| Aa ?_
     refine BX (cs := #[_, _]) (.inl rfl) rfl rfl Eb B1 ?_
     refine ⟨_, fun w hw => hw.pick (.cons 1 rfl (.cons 1 rfl (.cons 1 rfl .nil))), .inl ⟨⟨t.nu, s.ps, true, u.nu⟩, _, ?_, rfl, rfl⟩⟩
     simp at c4 c6
     simp [lineF, hh, show ¬ 1048576 < t.nu by omega, show ¬ 2097152 < u.nu by omega]
 ·have hh : s.hd = true := by simpa using c1
  refine DC.skip <| Fin.then <| DC.seq <| DC.block <| DC.seq ?_
  refine AG (cl := [.q, .q, .q, .q, .v, .q, .q, .q, .q, .v, .q, .q]) (A := [0, 1, 3, 7, 15, 31, 0, 64, 192, 448, 1023, 2047]) (order := [0, 1, 2, 3, 4, 5, 6, 7, 8, 9, 10, 11]) [] mixed (by kernel_rfl) (fun w hw => hw.pick .nil) ?_
  refine Ym ?_
  refine Yo rfl (AK rfl rfl) ?_
  refine Yf DD ?_
  refine Yf Ig ?_
  refine Yl ag37 ?_
  refine Yo rfl (BM rfl rfl Tryz.underlying37) ?_
  refine Ym ?_
  refine Yo rfl (AK rfl rfl) ?_
  refine Yf Im ?_
  refine Yl AO ?_
  refine Yo rfl (Ck rfl rfl rfl) ?_
  refine Yo rfl (Aw rfl rfl) ?_
  refine Flow.end rfl ?_
  simp only [zq, zr]
  refine Fin.then ?_
  refine Zd (fun c10 => ?_) fun c10 => ?_
  ·have hm : s.m ≤ s.ps.length := by simp at c10; omega
   refine Zs ?_
   refine Zm ?_
   refine Zo (AQ (ad' := ad.add (0 * 4)) rfl rfl rfl Tryz.underlying131 B2 (by omega) (by simp) rfl) ?_
   refine Zf Em ?_
   refine Zu (Ah rfl rfl AO (CW (i := 3) (j := 0) rfl rfl 1 rfl)) ?_
   refine Zo (AD (cs := #[_, _]) rfl rfl FD rfl rfl) ?_
   refine Zy (AA (cs' := #[_, _]) rfl rfl rfl B1 rfl (Nat.le_of_ble_eq_true rfl) rfl) ?_
   refine Zx <| DC.ret <| Ae <| Aa ?_
   refine BX (cs := #[_, _]) (.inl rfl) rfl rfl Eb B1 ?_
   refine ⟨_, fun w hw => hw, .inr ⟨26, t.fr, ?_, by decide, rfl⟩⟩
   simp [lineF, hh, hm]
  ·have hm : ¬ s.m ≤ s.ps.length := by simp at c10; omega
   refine Zs ?_
   refine Zm ?_
   refine Zn Tryz.underlying131 ?_
   refine Zo (BS rfl rfl rfl) ?_
   refine Za ?_
   refine Zx ?_
   refine Zd (fun c12 => ?_) fun c12 => ?_
   ·have hr : tr.length ≠ 1 := by simp at c12; omega
    refine Zs ?_
    refine Zm ?_
    refine Zo (AQ (ad' := ad.add (0 * 4)) rfl rfl rfl Tryz.underlying131 B2 (by omega) (by simp) rfl) ?_
    refine Zf Em ?_
    refine Zu (Ah rfl rfl AO (CW (i := 3) (j := 0) rfl rfl 1 rfl)) ?_
    refine Zo (AD (cs := #[_, _]) rfl rfl FD rfl rfl) ?_
    refine Zy (AA (cs' := #[_, _]) rfl rfl rfl B1 rfl (Nat.le_of_ble_eq_true rfl) rfl) ?_
    refine Zx <| DC.ret <| Ae <| Aa ?_
    refine BX (cs := #[_, _]) (.inl rfl) rfl rfl Eb B1 ?_
    refine ⟨_, fun w hw => hw, .inr ⟨23, t.fr, ?_, by decide, rfl⟩⟩
    match tr, hr with
    | [], _ => simp [lineF, hh, hm]
    | _ :: _ :: _, _ => simp [lineF, hh, hm]
    | [_], h => exact absurd rfl h
   ·have hr : tr.length = 1 := by simp at c12; omega
    obtain ⟨u, rfl⟩ := List.length_eq_one_iff.1 hr
    refine DC.skip <| Fin.inBlock <| Fin.then <| DC.seq <| Zs ?_
    refine Zm ?_
    refine Zn Tryz.underlying131 ?_
    refine Zm ?_
    refine Zx <| DC.block ?_
    refine DC.loop (ι := Nat) (fun j => j ≤ 2 ∧ ∀ (p : Nat) k, p < j → [t, u][p]? = some k → k.nu < s.n)
     (fun j => [(0, .pointer (some ⟨gr, 0, none⟩)), (1, .slice (some ad) _ cl), (4, .pointer (some ⟨g4, 0, none⟩)), (88, .slice (some ad) _ cl), (89, .int .i64 2), (90, .int .i64 j)])
     (fun j => [blk g4 51 #[.int .i64 0, .int .i64 0], blk gr 135 #[.int .i64 s.n, .slice Ap s.ps.length cp, .bool s.hd, .int .i64 s.m], slc (.slice Ap s.ps.length cp) 35 2 (prs s.ps), slc (.slice (some ad) _ cl) 138 4 (tks [t, u])]) (fun j => 2 - j) 0 ⟨by omega, fun p k h => by omega⟩ ⟨rfl, rfl, rfl, rfl, rfl, rfl, trivial⟩ (.cons 0 rfl (.cons 0 rfl (.cons 0 rfl (.cons 0 rfl .nil)))) ?_
    rintro j ⟨hj, hall⟩
    refine Zs ?_
    refine Zc ?_
    refine Zx <| DC.seq ?_
    refine Zd (fun c15 => ?_) fun c15 => ?_
    ·have hj2 : j < 2 := by simp at c15; omega
     obtain ⟨k, hk⟩ : ∃ k, [t, u][j]? = some k := ⟨_, List.getElem?_eq_getElem hj2⟩
     refine DC.skip <| Fin.then <| DC.seq <| DC.block <| Zs ?_
     refine Zo (AQ (ad' := ad.add (j * 4)) rfl rfl rfl Tryz.underlying131 B2 (by omega) (by simp; omega) (by rw [Int.toNat_natCast])) ?_
     refine Zu (Ay (vs := [_, _, _, _]) rfl rfl ag138 B2 rfl (Ic (i := 3) rfl hk)) ?_
     refine Zw (AH rfl Hc rfl) fun g6 => ?_
     refine Zy (AA (cs' := #[_, _, _, _]) rfl rfl rfl B2 rfl (Nat.le_of_ble_eq_true rfl) rfl) ?_
     refine Zx <| DC.seq ?_
     refine AG (cl := [.q, .v, .q, .q, .q, .q, .v, .q]) (A := [0, 1, 0, 4, 12, 28, 60, 127]) (order := [0, 1, 2, 3, 4, 5, 6, 7]) [] mixed (by kernel_rfl) (fun w hw => hw.pick .nil) ?_
     refine Yf DB ?_
     refine Yl AO ?_
     refine Ym ?_
     refine Yo rfl (AK rfl rfl) ?_
     refine Yf DD ?_
     refine Yf fi84_0 ?_
     refine Yl AO ?_
     refine Yo rfl (Ck rfl rfl rfl) ?_
     refine Flow.end rfl ?_
     simp only [zq, zr]
     refine Fin.then ?_
     refine Zd (fun c17 => ?_) fun c17 => ?_
     ·refine Zs ?_
      refine Zf Em ?_
      refine Zl AO ?_
      refine Zo (AD (cs := #[_, _]) rfl rfl FD rfl rfl) ?_
      refine Zy (AA (cs' := #[_, _]) rfl rfl rfl B1 rfl (Nat.le_of_ble_eq_true rfl) rfl) ?_
      refine Zx <| DC.ret <| Ae <| Aa <| Aa <| Ae <| Aa ?_
      refine BX (cs := #[_, _]) (.inl rfl) rfl rfl Eb B1 ?_
      refine ⟨_, fun w hw => hw, .inr ⟨24, k.fr, ?_, by decide, rfl⟩⟩
      have hn : s.n ≤ k.nu := by simpa using c17
      match j, hj2, hk with
      | 0, _, hk => cases hk; simp [lineF, hh, hm, hn]
      | 1, _, hk =>
       cases hk
       have h1 := hall 0 t (by omega) rfl
       simp [lineF, hh, hm, hn, show ¬ s.n ≤ t.nu by omega]
     ·refine DC.skip <| Fin.inBlock <| Fin.then <| DC.region ?_
      refine Zp ?_
      refine Zm ?_
      refine Seq.nil ?_
      refine Fin.again (j + 1) (by omega) ⟨by omega, fun p k' h1 h2 => ?_⟩ ⟨rfl, rfl, rfl, rfl, rfl, rfl, trivial⟩ (.cons 1 rfl (.cons 1 rfl (.cons 1 rfl (.cons 1 rfl .nil))))
      by_cases hp : p = j
      ·subst hp; rw [hk] at h2; cases h2; simp at c17; omega
      ·exact hall p k' (by omega) h2
    ·refine DC.exit <| Ad <| Ad <| Ag <| Fin.then <| DC.seq ?_
     refine AG (cl := [.q, .q, .q, .q, .q, .v, .q, .q, .q, .v, .q, .q, .q, .v, .q, .n, .g, .q, .q, .q, .g]) (A := [0, 0, 2, 6, 14, 30, 0, 64, 192, 448, 0, 1024, 3072, 7168, 16320, 32704, 65534, 131071, 262143, 524287, 1048575]) (order := [0, 1, 2, 3, 4, 5, 6, 7, 8, 9, 10, 11, 12, 13, 14, 15, 16, 17, 18, 19, 20]) [] mixed (by kernel_rfl) (fun w hw => hw.pick .nil) ?_
     refine Ym ?_
     refine Ym ?_
     refine Yo rfl (AK rfl rfl) ?_
     refine Yf DD ?_
     refine Yf Ig ?_
     refine Yl ag37 ?_
     refine Ym ?_
     refine Yo rfl (AQ (ad' := ad.add (0 * 4)) rfl rfl rfl Tryz.underlying131 B2 (by omega) (by simp) rfl) ?_
     refine Yf DB ?_
     refine Am rfl rfl rfl rfl (Ah rfl rfl AO (CW (i := 3) (j := 0) rfl rfl 3 rfl)) ?_
     refine Ym ?_
     refine Yo rfl (AQ (ad' := ad.add (1 * 4)) rfl rfl rfl Tryz.underlying131 B2 (by omega) (by simp) rfl) ?_
     refine Yf DB ?_
     refine Am rfl rfl rfl rfl (Ah rfl rfl AO (CW (i := 3) (j := 1) rfl rfl 3 rfl)) ?_
     refine Yo rfl (H2 (cs := #[.int .i64 t.nu, .int .i64 u.nu]) rfl rfl Tryz.underlying35 AN LJ rfl rfl rfl) ?_
     refine AY rfl rfl rfl rfl (AP (cs := #[_, _]) rfl rfl Tryz.underlying37 sz35 LJ rfl (by decide) (by decide) rfl rfl) fun g121 => ?_
     refine Cu (V := [blk g121 35 #[.int .i64 t.nu, .int .i64 u.nu], blk g4 51 #[.int .i64 0, .int .i64 0], blk gr 135 #[.int .i64 s.n, .slice Ap s.ps.length cp, .bool s.hd, .int .i64 s.m], slc (.slice Ap s.ps.length cp) 35 2 (prs s.ps), slc (.slice (some ad) _ cl) 138 4 (tks [t, u])]) rfl rfl rfl rfl rfl (Gen.shape (AR (F := [blk g121 _ _, blk g4 _ _, blk gr _ _, slc _ _ _ _]) (vs := prs s.ps) (k := 1) (news := [.int .i64 t.nu, .int .i64 u.nu]) rfl rfl rfl Tryz.underlying37 sz35 by35 LJ rfl (by decide) (by decide)
      (fun w hw => hw.pick (.cons 3 rfl (.cons 0 rfl (.cons 0 rfl (.cons 0 rfl (.cons 0 rfl .nil)))))) (.inl ⟨_, _, rfl, Ak rfl⟩) rfl (by intro u hu; simp at hu; rcases hu with rfl | rfl <;> rfl) (by rw [prs_length]; omega))) (fun v L' hC w hw => hw.pick (.nil)) ?_
     rintro _ _ ⟨⟨A11, l11, c11, rfl⟩, rfl⟩
     refine Yo rfl (AK rfl rfl) ?_
     refine Yf DD ?_
     refine Yf Ig ?_
     refine AL rfl rfl rfl rfl (AF (cs' := #[_, _, _, _]) rfl rfl rfl sz37 rfl (Nat.le_of_ble_eq_true rfl) rfl) (fun w hw => hw.pick (.nil)) ?_
     refine Flow.end rfl ?_
     simp only [zq, zr]
     refine Fin.then <| Zs ?_
     refine Zo (AD (cs := #[_, _]) rfl rfl FD rfl rfl) ?_
     refine Zy (AA (cs' := #[_, _]) rfl rfl rfl B1 rfl (Nat.le_of_ble_eq_true rfl) rfl) ?_
     refine Zx <| DC.ret ?_
     refine BX (cs := #[_, _]) (.inl rfl) rfl rfl Eb B1 ?_
     have hj2 : j = 2 := by simp at c15; omega
     have h1 := hall 0 t (by omega) rfl
     have h2 := hall 1 u (by omega) rfl
     refine ⟨_, fun w hw => hw.pick (.cons 3 rfl (.cons 0 rfl (.cons 2 rfl .nil))), .inl ⟨⟨s.n, s.ps ++ [(t.nu, u.nu)], true, s.m⟩, .slice A11 l11 c11, ?_, rfl, ?_⟩⟩
     ·simp [lineF, hh, hm, show ¬ s.n ≤ t.nu by omega, show ¬ s.n ≤ u.nu by omega]
     ·simp [liL, Dt, prs, hh]
theorem HU {gr : Nat} {vp vl : Value} {s : RdS} {tk : List Tk} {w : World} (hO : Own w (idsOf (liL gr vp s vl tk)) w (liL gr vp s vl tk)) (h0 : tk ≠ []) (hl : tk.length ≤ 100000000) (hp : s.ps.length ≤ 100000000) :
  Calls Tryz.prog 73 #[.pointer (some ⟨gr, 0, none⟩), vl] w (Ret w (idsOf (liL gr vp s vl tk)) fun r M => ∃ c a, r = .agg #[.int .i64 c, .int .i64 a] ∧
   ((c = 0 ∧ ∃ s' vp', lineF s tk = .ok s' ∧ M = liL gr vp' s' vl tk) ∨ (c ≠ 0 ∧ lineF s tk = .bad c a))) := by
 refine Calls.mono (IV hO h0 hl hp) ?_
 rintro e w' ⟨v, L', rfl, ⟨s', vp', h1, rfl, rfl⟩ | ⟨c, a, h1, h2, rfl⟩, hO⟩
 ·exact ⟨_, _, rfl, ⟨0, 0, rfl, .inl ⟨rfl, s', vp', h1, rfl⟩⟩, hO⟩
 ·exact ⟨_, _, rfl, ⟨c, a, rfl, .inr ⟨h2, h1⟩⟩, hO⟩
theorem JS {vb : Value} {bs : List UInt8} {w : World} (hB : ByV w vb bs) :
  Calls Tryz.prog 72 #[vb] w (Ret w [] fun r M => ∃ tk A c a e, r = .tuple #[.slice A tk.length c, .int .i64 a, .int .i64 e] ∧ M = [slc (.slice A tk.length c) 138 4 (tks tk)] ∧ tk.length ≤ 33554433 ∧ (tk ≠ [] → ∃ ad, A = some ad) ∧ ((e = 0 ∧ scanA bs = .ok tk) ∨ (e ≠ 0 ∧ scanA bs = .bad a e))) := by
 refine Calls.mono (KR hB) ?_
 rintro e w' ⟨v, L', rfl, ⟨tk, vt, hsc, htl, rfl, rfl⟩ | ⟨a, e, hsc, rfl, rfl⟩, hO⟩
 ·obtain ⟨A, c, rfl, hR, _⟩ := HN hO 0 rfl
  refine ⟨_, _, rfl, ⟨tk, A, c, 0, 0, rfl, rfl, htl, fun hne => ?_, .inl ⟨rfl, hsc⟩⟩, hO⟩
  obtain ⟨k, hk⟩ : ∃ k, tk[0]? = some k := ⟨_, List.getElem?_eq_getElem (List.length_pos_iff.2 hne)⟩
  obtain ⟨ad, e, _⟩ := hR.tk hk
  exact ⟨ad, e⟩
 ·exact ⟨_, _, rfl, ⟨[], none, 0, a, e, rfl, rfl, by simp, fun h => absurd rfl h, .inr ⟨LQ hsc, hsc⟩⟩, Bm hO⟩
structure FeI where
 s : RdS
 l : List Tk
 j : Nat
 vp : Value
 vl : Value
def RawR (bs : List UInt8) (r : Value) (M : List Chunk) : Prop :=
 (∃ n ps vp, rawF bs = .ok n ps ∧ ps.length ≤ 33554433 ∧ r = .tuple #[.agg #[.int .i64 n, vp], .agg #[.int .i64 0, .int .i64 0]] ∧ M = [slc vp 35 2 (prs ps)]) ∨
 (∃ c a, rawF bs = .bad c a ∧ c ≠ 0 ∧ r = .tuple #[.agg #[.int .i64 0, .slice none 0 0], .agg #[.int .i64 c, .int .i64 a]] ∧ M = [])
theorem Raw_calls {vb : Value} {bs : List UInt8} {w : World} (hB : ByV w vb bs) :
  Calls Tryz.prog 38 #[vb] w (Ret w [] (RawR bs)) := by
 have ho : ByO vb bs [] := fun _ _ _ _ _ h => by simp at h
 obtain ⟨Ab, cb, rfl⟩ := hB.len
 refine At (K := []) (args := [_]) (L := []) Tryz.func38 rfl Tryz.ntmps38 rfl (Own.start _ _) ?_
 refine Zs ?_
 refine Zw (AH rfl ze84 rfl) fun g2 => ?_
 refine Zw (AH rfl LI rfl) fun g3 => ?_
 refine Zx ?_
 refine DC.scope ?_
 refine DC.seq <| Zs ?_
 refine Zm ?_
 refine Zn Tryz.underlying47 ?_
 refine Zo (BH rfl rfl rfl) ?_
 refine Zx ?_
 refine Zd (fun c1 => ?_) fun c1 => ?_
 ·refine Zs ?_
  refine Zo (AD (cs := #[_, _]) rfl rfl bs84 rfl rfl) ?_
  refine Zo (AD (cs := #[_, _]) rfl rfl FD rfl rfl) ?_
  refine Zy (AA (cs' := #[_, _]) rfl rfl rfl EM rfl (Nat.le_of_ble_eq_true rfl) rfl) ?_
  refine Zy (AA (cs' := #[_, _]) rfl rfl rfl B1 rfl (Nat.le_of_ble_eq_true rfl) rfl) ?_
  refine Zx <| DC.ret <| Aa <| B0 ?_
  refine Cw (cs := #[_, _]) (cs' := #[_, _]) (.inl rfl) rfl rfl rfl KO EM Eb B1 ?_
  refine ⟨[], fun w hw => hw.pick .nil, .inr ⟨10, 16777216, ?_, by decide, rfl, rfl⟩⟩
  have : 16777216 < bs.length := by simp at c1; omega
  simp [rawF, this]
 ·have hlen : ¬ 16777216 < bs.length := by simp at c1; omega
  refine DC.skip <| Fin.then <| Zs ?_
  refine Zm ?_
  refine Seq.gen rfl rfl (BA en72 rfl rfl rfl (Lc := []) (F := [blk g3 51 #[.int .i64 0, .int .i64 0], blk g2 84 #[.int .i64 0, .slice none 0 0]]) (.refl _) (fun k hk => by simp at hk) (fun w hw => JS (hB.keep0 hw))) ?_
  rintro _ _ ⟨_, ⟨tk, A, c, a, e, rfl, rfl, htl, hA, hsc⟩, rfl⟩
  refine Zm ?_
  refine Ze ?_
  refine Ze ?_
  refine Ze ?_
  refine Za ?_
  refine Za ?_
  refine Za ?_
  refine Zx <| DC.seq <| DC.seq ?_
  simp only [List.cons_append, List.nil_append]
  refine DC.region ?_
  refine Zm ?_
  refine Zo (BS rfl rfl rfl) ?_
  refine Zx ?_
  refine Zd (fun c4 => ?_) fun c4 => ?_
  ·have hbad : scanA bs = .bad a e ∧ e ≠ 0 := by
    rcases hsc with ⟨rfl, _⟩ | ⟨h1, h2⟩
    ·simp at c4
    ·exact ⟨h2, h1⟩
   refine Zs ?_
   refine Zo (AD (cs := #[_, _]) rfl rfl bs84 rfl rfl) ?_
   refine Zm ?_
   refine Zm ?_
   refine Zo (AD (cs := #[_, _]) rfl rfl FD rfl rfl) ?_
   refine Zy (AA (cs' := #[_, _]) rfl rfl rfl EM rfl (Nat.le_of_ble_eq_true rfl) rfl) ?_
   refine Zy (AA (cs' := #[_, _]) rfl rfl rfl B1 rfl (Nat.le_of_ble_eq_true rfl) rfl) ?_
   refine Zx <| DC.ret <| Aa <| B0 ?_
   refine Cw (cs := #[_, _]) (cs' := #[_, _]) (.inl rfl) rfl rfl rfl KO EM Eb B1 ?_
   refine ⟨[], fun w hw => hw.pick .nil, .inr ⟨e, a, ?_, hbad.2, rfl, rfl⟩⟩
   simp [rawF, hlen, hbad.1]
  ·have hok : scanA bs = .ok tk := by
    rcases hsc with ⟨_, h2⟩ | ⟨h1, h2⟩
    ·exact h2
    ·simp at c4; exact absurd c4.symm (fun h => h1 h.symm)
   have hrw : rawF bs = endF bs.length (feedF ⟨0, [], false, 0⟩ [] tk) := by simp [rawF, hlen, hok]
   refine DC.skip <| Fin.then <| Zs ?_
   refine Zw (AH rfl ze135 rfl) fun g7 => ?_
   refine Zx <| Zs ?_
   refine Za ?_
   refine Zx <| DC.seq <| DC.label <| Fin.then ?_
   refine DC.cut (ι := FeI) (fun i => feedF ⟨0, [], false, 0⟩ [] tk = .ok i.s ∧ i.s.ps.length ≤ 33554433) (fun i => [(0, .slice Ab bs.length cb), (2, .pointer (some ⟨g2, 0, none⟩)), (3, .pointer (some ⟨g3, 0, none⟩)), (7, .pointer (some ⟨g7, 0, none⟩))])
    (fun i => [blk g7 135 #[.int .i64 i.s.n, i.vp, .bool i.s.hd, .int .i64 i.s.m], slc i.vp 35 2 (prs i.s.ps), blk g3 51 #[.int .i64 0, .int .i64 0], blk g2 84 #[.int .i64 0, .slice none 0 0]]) ?first ?rest
   case first =>
    refine DC.seq ?_
    refine DC.own (fun w hw => Bm (t := 138) (m := 4) (Bm (t := 35) (m := 2) hw)) ?_
    refine DC.region ?_
    refine Zm ?_
    refine Zn Tryz.underlying131 ?_
    refine Zm ?_
    refine Zx <| DC.block ?_
    refine DC.loop (ι := FeI) (fun i => feedF ⟨0, [], false, 0⟩ [] tk = feedF i.s i.l (tk.drop i.j) ∧ i.j ≤ tk.length ∧ i.s.ps.length ≤ i.j ∧ i.l.length ≤ i.j)
     (fun i => [(0, .slice Ab bs.length cb), (2, .pointer (some ⟨g2, 0, none⟩)), (3, .pointer (some ⟨g3, 0, none⟩)), (7, .pointer (some ⟨g7, 0, none⟩)), (8, i.vl), (29, .slice A tk.length c), (30, .int .i64 tk.length), (31, .int .i64 (i.j : Nat))])
     (fun i => [blk g7 135 #[.int .i64 i.s.n, i.vp, .bool i.s.hd, .int .i64 i.s.m], slc i.vp 35 2 (prs i.s.ps), slc i.vl 138 4 (tks i.l), blk g3 51 #[.int .i64 0, .int .i64 0], blk g2 84 #[.int .i64 0, .slice none 0 0], slc (.slice A tk.length c) 138 4 (tks tk)]) (fun i => tk.length - i.j)
     ⟨⟨0, [], false, 0⟩, [], 0, .slice none 0 0, .slice none 0 0⟩ ⟨rfl, by simp, by simp, by simp⟩ ⟨rfl, rfl, rfl, rfl, rfl, rfl, rfl, rfl, trivial⟩ (.cons 2 rfl (.cons 1 rfl (.cons 0 rfl (.cons 1 rfl (.cons 1 rfl (.cons 0 rfl .nil)))))) ?_
    rintro ⟨s, l, j, vp, vl⟩ ⟨hfe, hj, hpl, hll⟩
    dsimp only at hfe hj hpl hll ⊢
    refine Zs ?_
    refine Zc ?_
    refine Zx <| DC.seq ?_
    refine Zd (fun c9 => ?_) fun c9 => ?_
    ·have hj9 : j < tk.length := by simpa using c9
     obtain ⟨k, hk⟩ : ∃ k, tk[j]? = some k := ⟨_, List.getElem?_eq_getElem hj9⟩
     obtain ⟨ad, rfl⟩ := hA (fun e => by rw [e] at hj9; simp at hj9)
     have hdr : tk.drop j = k :: tk.drop (j + 1) := by rw [List.drop_eq_getElem_cons hj9]; congr 1; exact (List.getElem?_eq_some_iff.1 hk).2
     rw [hdr] at hfe
     refine DC.skip <| Fin.then <| DC.seq <| DC.block <| Zs ?_
     refine Zo (AQ (ad' := ad.add (j * 4)) rfl rfl rfl Tryz.underlying131 B2 (by omega) (by omega) (by rw [Int.toNat_natCast])) ?_
     refine Zu (Ay (vs := [_, _, _, _]) rfl rfl ag138 B2 rfl (Ic (i := 5) rfl hk)) ?_
     refine Zw (AH rfl Hc rfl) fun g10 => ?_
     refine Zy (AA (cs' := #[_, _, _, _]) rfl rfl rfl B2 rfl (Nat.le_of_ble_eq_true rfl) rfl) ?_
     refine Zx <| DC.seq <| Zs ?_
     refine Zf Il ?_
     refine Zl ag136 ?_
     refine Zo (AX rfl rfl rfl) ?_
     refine Zx ?_
     refine Zd (fun c11 => ?_) fun c11 => ?_
     ·have hk1 : k.kd = 1 := by simpa using c11
      refine Zs ?_
      refine Zm ?_
      refine Zu (Ay (vs := [_, _, _, _]) rfl rfl ag138 B2 rfl (Ak rfl)) ?_
      refine Zw (AP (cs := #[_, _, _, _]) rfl rfl Tryz.underlying131 B2 Hc rfl (by decide) (by decide) rfl rfl) fun g40 => ?_
      refine Seq.gen rfl rfl (Gen.shape (AR (F := [blk g40 _ _, blk g10 _ _, blk g7 _ _, slc _ _ _ _, blk g3 _ _, blk g2 _ _, slc _ _ _ _]) (vs := tks l) (k := 1) (news := [.int .i64 k.kd, .int .i64 k.fr, .int .i64 k.en, .int .i64 k.nu]) rfl rfl rfl Tryz.underlying131 B2 by138 Hc rfl (by decide) (by decide)
       (fun w hw => hw.pick (.cons 4 rfl (.cons 0 rfl (.cons 0 rfl (.cons 0 rfl (.cons 0 rfl (.cons 0 rfl (.cons 0 rfl (.cons 0 rfl .nil))))))))) (.inl ⟨_, _, rfl, Ak rfl⟩) rfl (by intro u hu; simp at hu; rcases hu with rfl | rfl | rfl | rfl <;> rfl) (by rw [tks_length]; omega))) ?_
      rintro _ _ ⟨⟨A11, l11, c11', rfl⟩, rfl⟩
      refine Za ?_
      refine Zx <| DC.exit <| Ad <| Ag <| Fin.then <| DC.region ?_
      refine Zp ?_
      refine Zm ?_
      refine Seq.nil ?_
      refine Fin.again ⟨s, l ++ [k], j + 1, vp, .slice A11 l11 c11'⟩ (by dsimp only; omega) ⟨hfe.trans (feedF_num hk1), by dsimp only; omega, by dsimp only; omega, by simp; omega⟩ ⟨rfl, rfl, rfl, rfl, rfl, rfl, rfl, rfl, trivial⟩ (.cons 3 rfl (.cons 3 rfl (.cons' 0 rfl (by rw [Gd]; rfl) (.cons 2 rfl (.cons 2 rfl (.cons 2 rfl .nil))))))
     ·have hk1 : k.kd ≠ 1 := by simpa using c11
      refine DC.skip <| Fin.then <| DC.seq <| DC.seq ?_
      refine DC.shapeT 3 rfl ?_
      rintro ⟨Al, cl, rfl⟩
      refine DC.region ?_
      refine Zm ?_
      refine Zn Tryz.underlying131 ?_
      refine Zo (BH rfl rfl rfl) ?_
      refine Zx ?_
      refine Zd (fun c13 => ?_) fun c13 => ?_
      ·have hl0 : l ≠ [] := by rintro rfl; simp at c13
       refine DC.seq <| Zs ?_
       refine Zm ?_
       refine Seq.gen rfl rfl (BA en73 rfl rfl rfl (Lc := liL g7 vp s (.slice Al l.length cl) l) (F := [blk g10 138 #[.int .i64 k.kd, .int .i64 k.fr, .int .i64 k.en, .int .i64 k.nu], blk g3 51 #[.int .i64 0, .int .i64 0], blk g2 84 #[.int .i64 0, .slice none 0 0], slc (.slice (some ad) tk.length c) 138 4 (tks tk)]) (List.perm_middle (a := blk g10 138 #[.int .i64 k.kd, .int .i64 k.fr, .int .i64 k.en, .int .i64 k.nu]) (l₁ := liL g7 vp s (.slice Al l.length cl) l)).symm (fun k hk => hk) (fun w hw => HU (hw.pick (L' := liL g7 vp s (.slice Al l.length cl) l) (.cons 1 rfl (.cons 1 rfl (.cons 1 rfl .nil)))).self hl0 (by omega) (by omega))) ?_
       rintro _ _ ⟨M', ⟨cc, aa, rfl, hln⟩, rfl⟩
       refine Seq.own (fun w hw => hw.perm (List.perm_append_comm)) ?_
       simp only [List.cons_append, List.nil_append]
       refine Zw (AH rfl LI rfl) fun g11 => ?_
       refine Zy (AA (cs' := #[_, _]) rfl rfl rfl B1 rfl (Nat.le_of_ble_eq_true rfl) rfl) ?_
       refine Zx <| Zs ?_
       refine Zf KC ?_
       refine Zl GV ?_
       refine Zo (BS rfl rfl rfl) ?_
       refine Zx ?_
       refine Zd (fun c15 => ?_) fun c15 => ?_
       ·have hbad : lineF s l = .bad cc aa ∧ cc ≠ 0 := by
         rcases hln with ⟨rfl, _⟩ | ⟨h1, h2⟩
         ·simp at c15
         ·exact ⟨h2, h1⟩
        refine DC.seq ?_
        refine AG (cl := [.q, .q, .g, .g]) (A := [0, 0, 1, 7]) (order := [0, 1, 2, 3]) ([blk g11 51 #[.int .i64 cc, .int .i64 aa]]) mixed (by kernel_rfl) (fun w hw => hw.pick (.cons 0 rfl .nil)) ?_
        refine Yo rfl (AD (cs := #[_, _]) rfl rfl bs84 rfl rfl) ?_
        refine Flow.old rfl rfl rfl (Ay (vs := [_, _]) rfl rfl Eb B1 rfl (Ak rfl)) ?_
        refine AL rfl rfl rfl rfl (AA (cs' := #[_, _]) rfl rfl rfl EM rfl (Nat.le_of_ble_eq_true rfl) rfl) (fun w hw => hw.pick (.cons 0 rfl .nil)) ?_
        refine AL rfl rfl rfl rfl (AA (cs' := #[_, _]) rfl rfl rfl B1 rfl (Nat.le_of_ble_eq_true rfl) rfl) (fun w hw => hw.pick (.cons 0 rfl .nil)) ?_
        refine Flow.end rfl ?_
        simp only [zq, zr]
        refine Fin.then <| DC.ret <| Aa <| Aa <| Ae <| Aa <| Aa <| Ae <| Aa <| B0 ?_
        refine Cw (cs := #[_, _]) (cs' := #[_, _]) (.inl rfl) rfl rfl rfl KO EM Eb B1 ?_
        refine ⟨[], fun w hw => hw.pick .nil, .inr ⟨cc, aa, ?_, hbad.2, rfl, rfl⟩⟩
        rw [hrw, hfe, feedF_bad hk1 hl0 hbad.1]; rfl
       ·obtain ⟨s', vp', hs', rfl⟩ : ∃ s' vp', lineF s l = .ok s' ∧ M' = liL g7 vp' s' (.slice Al l.length cl) l := by
         rcases hln with ⟨_, h⟩ | ⟨h1, h2⟩
         ·exact h
         ·simp at c15; exact absurd c15.symm (fun h => h1 h.symm)
        have hpl' := lineF_len hs'
        refine DC.skip <| Fin.then <| DC.region ?_
        refine Zm ?_
        refine Zo (CT (hi := 0) rfl rfl rfl Tryz.underlying131 B2 (by omega)) ?_
        refine Za ?_
        refine Seq.nil ?_
        unfold liL
        refine Fin.own (fun w hw => L5 (m := 4) 7 rfl (by decide) hw) ?_
        simp only [List.eraseIdx_cons_succ, List.eraseIdx_cons_zero]
        refine Fin.then <| Zs ?_
        refine Zf Il ?_
        refine Zl ag136 ?_
        refine Zo (AX rfl rfl rfl) ?_
        refine Zx ?_
        refine Zd (fun c18 => ?_) fun c18 => ?_
        ·have hk3 : k.kd = 3 := by simpa using c18
         refine DC.exit <| Ew (by decide) <| Ad <| Ad <| Ag ?_
         refine AZ ⟨s', [], 0, vp', .slice none 0 0⟩ ⟨hfe.trans (HB hk1 (.inr ⟨hl0, hs'⟩) hk3), by dsimp only; omega⟩ ⟨rfl, rfl, rfl, rfl, trivial⟩ (.cons 6 rfl (.cons 6 rfl (.cons 3 rfl (.cons 3 rfl .nil))))
        ·have hk3 : k.kd ≠ 3 := by simpa using c18
         refine DC.skip <| Fin.inBlock <| Fin.then <| DC.region ?_
         refine Zp ?_
         refine Zm ?_
         refine Seq.nil ?_
         refine Fin.again ⟨s', [], j + 1, vp', .slice Al 0 cl⟩ (by dsimp only; omega) ⟨hfe.trans (Jx hk1 (.inr ⟨hl0, hs'⟩) hk3), by dsimp only; omega, by dsimp only; omega, by simp⟩ ⟨rfl, rfl, rfl, rfl, rfl, rfl, rfl, rfl, trivial⟩ (.cons 6 rfl (.cons 6 rfl (.cons 0 rfl (.cons 2 rfl (.cons 2 rfl (.cons 2 rfl .nil))))))
      ·have hl0 : l = [] := by simp at c13; exact c13
       refine DC.skip <| Fin.then <| Zs ?_
       refine Zf Il ?_
       refine Zl ag136 ?_
       refine Zo (AX rfl rfl rfl) ?_
       refine Zx ?_
       refine Zd (fun c18 => ?_) fun c18 => ?_
       ·have hk3 : k.kd = 3 := by simpa using c18
        refine DC.exit <| Ew (by decide) <| Ad <| Ad <| Ag ?_
        refine AZ ⟨s, [], 0, vp, .slice none 0 0⟩ ⟨hfe.trans (HB hk1 (.inl ⟨hl0, rfl⟩) hk3), by dsimp only; omega⟩ ⟨rfl, rfl, rfl, rfl, trivial⟩ (.cons 1 rfl (.cons 1 rfl (.cons 2 rfl (.cons 2 rfl .nil))))
       ·have hk3 : k.kd ≠ 3 := by simpa using c18
        refine DC.skip <| Fin.inBlock <| Fin.then <| DC.region ?_
        refine Zp ?_
        refine Zm ?_
        refine Seq.nil ?_
        subst hl0
        refine Fin.again ⟨s, [], j + 1, vp, .slice Al ([] : List Tk).length cl⟩ (by dsimp only; omega) ⟨hfe.trans (Jx hk1 (.inl ⟨rfl, rfl⟩) hk3), by dsimp only; omega, by dsimp only; omega, by simp⟩ ⟨rfl, rfl, rfl, rfl, rfl, rfl, rfl, rfl, trivial⟩ (.cons 1 rfl (.cons 1 rfl (.cons 1 rfl (.cons 1 rfl (.cons 1 rfl (.cons 1 rfl .nil))))))
    ·refine DC.exit <| Ad <| Ad <| Ag ?_
     have hj9 : tk.length ≤ j := by simp at c9; omega
     rw [List.drop_eq_nil_of_le hj9] at hfe
     refine AZ ⟨s, [], 0, vp, .slice none 0 0⟩ ⟨hfe, by dsimp only; omega⟩ ⟨rfl, rfl, rfl, rfl, trivial⟩ (.cons 0 rfl (.cons 0 rfl (.cons 1 rfl (.cons 1 rfl .nil))))
   case rest =>
    rintro ⟨s, l', j', vp, vl'⟩ ⟨hfe, hpl⟩
    dsimp only at hfe hpl ⊢
    refine DC.shapeP 1 rfl (by omega) ?_
    rintro ⟨Ap, cp, rfl⟩
    refine DC.seq <| DC.block <| Zs ?_
    refine Zf In ?_
    refine Zl ag4 ?_
    refine Zo (Bh rfl rfl) ?_
    refine Za ?_
    refine Zx ?_
    refine Zd (fun c20 => ?_) fun c20 => ?_
    ·refine Zs ?_
     refine Zo (AD (cs := #[_, _]) rfl rfl bs84 rfl rfl) ?_
     refine Zm ?_
     refine Zn Tryz.underlying47 ?_
     refine Zo (AD (cs := #[_, _]) rfl rfl FD rfl rfl) ?_
     refine Zy (AA (cs' := #[_, _]) rfl rfl rfl EM rfl (Nat.le_of_ble_eq_true rfl) rfl) ?_
     refine Zy (AA (cs' := #[_, _]) rfl rfl rfl B1 rfl (Nat.le_of_ble_eq_true rfl) rfl) ?_
     refine Zx <| DC.ret <| Ae <| Aa <| B0 ?_
     refine Cw (cs := #[_, _]) (cs' := #[_, _]) (.inl rfl) rfl rfl rfl KO EM Eb B1 ?_
     refine ⟨[], fun w hw => hw.pick .nil, .inr ⟨20, bs.length, ?_, by decide, rfl, rfl⟩⟩
     have hh : s.hd = false := by simpa using c20
     rw [hrw, hfe]; simp [endF, hh]
    ·have hh : s.hd = true := by simpa using c20
     refine Zs ?_
     refine Zf DD ?_
     refine Zf Ig ?_
     refine Zl ag37 ?_
     refine Zn Tryz.underlying37 ?_
     refine Zf Im ?_
     refine Zl AO ?_
     refine Zc ?_
     refine Za ?_
     refine Zx ?_
     refine Zd (fun c22 => ?_) fun c22 => ?_
     ·refine Zs ?_
      refine Zo (AD (cs := #[_, _]) rfl rfl bs84 rfl rfl) ?_
      refine Zm ?_
      refine Zn Tryz.underlying47 ?_
      refine Zo (AD (cs := #[_, _]) rfl rfl FD rfl rfl) ?_
      refine Zy (AA (cs' := #[_, _]) rfl rfl rfl EM rfl (Nat.le_of_ble_eq_true rfl) rfl) ?_
      refine Zy (AA (cs' := #[_, _]) rfl rfl rfl B1 rfl (Nat.le_of_ble_eq_true rfl) rfl) ?_
      refine Zx <| DC.ret <| Ae <| Aa <| B0 ?_
      refine Cw (cs := #[_, _]) (cs' := #[_, _]) (.inl rfl) rfl rfl rfl KO EM Eb B1 ?_
      refine ⟨[], fun w hw => hw.pick .nil, .inr ⟨25, bs.length, ?_, by decide, rfl, rfl⟩⟩
      have hm : (s.ps.length : Int) < s.m := by simpa using c22
      rw [hrw, hfe]; simp [endF, hh, hm]
     ·refine DC.skip <| Fin.inBlock <| Fin.then <| Zs ?_
      refine Zf DD ?_
      refine Zu (Ay (vs := [_, _]) rfl rfl KO EM rfl (Ak rfl)) ?_
      refine Zo (AD (cs := #[_, _]) rfl rfl FD rfl rfl) ?_
      refine Zy (AA (cs' := #[_, _]) rfl rfl rfl EM rfl (Nat.le_of_ble_eq_true rfl) rfl) ?_
      refine Zy (AA (cs' := #[_, _]) rfl rfl rfl B1 rfl (Nat.le_of_ble_eq_true rfl) rfl) ?_
      refine Zx <| DC.ret <| B0 ?_
      refine Cw (cs := #[_, _]) (cs' := #[_, _]) (.inl rfl) rfl rfl rfl KO EM Eb B1 ?_
      refine ⟨_, fun w hw => hw.pick (.cons 1 rfl .nil), .inl ⟨s.n, s.ps, _, ?_, hpl, rfl, rfl⟩⟩
      have hm : ¬ (s.ps.length : Int) < s.m := by simp at c22; omega
      rw [hrw, hfe]; simp [endF, hh, hm]
theorem Raw_bad {vb : Value} {bs : List UInt8} {c a : Int} {w : World} (hB : ByV w vb bs) (h : rawF bs = .bad c a) :
  Calls Tryz.prog 38 #[vb] w (Ret w [] fun r M => M = [] ∧ c ≠ 0 ∧ r = .tuple #[.agg #[.int .i64 0, .slice none 0 0], .agg #[.int .i64 c, .int .i64 a]]) := by
 refine Calls.mono (Raw_calls hB) ?_
 rintro e w' ⟨v, L', rfl, ⟨n, ps, vp, h1, _⟩ | ⟨c', a', h1, h2, rfl, rfl⟩, hO⟩
 ·rw [h] at h1; cases h1
 ·rw [h] at h1; cases h1; exact ⟨_, _, rfl, ⟨rfl, h2, rfl⟩, hO⟩
theorem Read_bad {vb : Value} {bs : List UInt8} {c a : Int} {w : World} (hB : ByV w vb bs) (h : rawF bs = .bad c a) :
  Calls Tryz.prog 21 #[vb] w (Ret w [] fun r M => M = [] ∧ c ≠ 0 ∧ r = .tuple #[.agg #[.int .i64 0, .slice none 0 0], .agg #[.int .i64 c, .int .i64 a]]) := by
 refine At (K := []) (args := [_]) (L := []) Tryz.func21 rfl Tryz.ntmps21 rfl (Own.start _ _) ?_
 refine Zs ?_
 refine Zw (AH rfl JY rfl) fun g2 => ?_
 refine Zw (AH rfl LI rfl) fun g3 => ?_
 refine Zx <| Zs ?_
 refine Zm ?_
 refine Seq.rel0 rfl rfl (Aq en38 rfl rfl rfl (fun w hw => Raw_bad (hB.keep0 hw) h)) ?_
 rintro _ ⟨hc0, rfl⟩
 refine Zm ?_
 refine Ze ?_
 refine Ze ?_
 refine Zw (AH rfl ze84 rfl) fun g4 => ?_
 refine Zw (AH rfl LI rfl) fun g5 => ?_
 refine Zy (AA (cs' := #[_, _]) rfl rfl rfl EM rfl (Nat.le_of_ble_eq_true rfl) rfl) ?_
 refine Zy (AA (cs' := #[_, _]) rfl rfl rfl B1 rfl (Nat.le_of_ble_eq_true rfl) rfl) ?_
 refine Zx <| DC.seq <| Zs ?_
 refine Zf KC ?_
 refine Zl GV ?_
 refine Zo (BS rfl rfl rfl) ?_
 refine Zx ?_
 refine Zd (fun c2 => ?_) fun c2 => ?_
 ·refine DC.seq ?_
  refine AG (cl := [.q, .q, .g, .g]) (A := [0, 0, 1, 7]) (order := [0, 1, 2, 3]) ([blk g5 51 #[.int .i64 c, .int .i64 a]]) mixed (by kernel_rfl) (fun w hw => hw.pick (.cons 0 rfl .nil)) ?_
  refine Yo rfl (AD (cs := #[_, _]) rfl rfl KN rfl rfl) ?_
  refine Flow.old rfl rfl rfl (Ay (vs := [_, _]) rfl rfl Eb B1 rfl (Ak rfl)) ?_
  refine AL rfl rfl rfl rfl (AA (cs' := #[_, _]) rfl rfl rfl Bc rfl (Nat.le_of_ble_eq_true rfl) rfl) (fun w hw => hw.pick (.cons 0 rfl .nil)) ?_
  refine AL rfl rfl rfl rfl (AA (cs' := #[_, _]) rfl rfl rfl B1 rfl (Nat.le_of_ble_eq_true rfl) rfl) (fun w hw => hw.pick (.cons 0 rfl .nil)) ?_
  refine Flow.end rfl ?_
  simp only [zq, zr]
  refine Fin.then <| DC.ret <| Aa ?_
  refine Cw (cs := #[_, _]) (cs' := #[_, _]) (.inl rfl) rfl rfl rfl Bj Bc Eb B1 ?_
  exact ⟨[], fun w hw => hw.pick .nil, rfl, hc0, rfl⟩
 ·exact absurd c2 (by simpa using hc0)
theorem Bytes_bad {vb vc : Value} {bs : List UInt8} {c a : Int} {w : World} (hB : ByV w vb bs) (h : rawF bs = .bad c a) :
  Calls Tryz.prog 19 #[vb, vc] w (Ret w [] fun r M => M = [] ∧ r = .int .i64 180) := by
 refine At (K := []) (args := [_, _]) (L := []) Tryz.func19 rfl Tryz.ntmps19 rfl (Own.start _ _) ?_
 refine Zs ?_
 refine Za ?_
 refine Zx <| Zs ?_
 refine Zm ?_
 refine Seq.rel0 rfl rfl (Aq en21 rfl rfl rfl (fun w hw => Read_bad (hB.keep0 hw) h)) ?_
 rintro _ ⟨hc0, rfl⟩
 refine Zm ?_
 refine Ze ?_
 refine Ze ?_
 refine Zw (AH rfl JY rfl) fun g5 => ?_
 refine Zw (AH rfl LI rfl) fun g6 => ?_
 refine Zy (AA (cs' := #[_, _]) rfl rfl rfl Bc rfl (Nat.le_of_ble_eq_true rfl) rfl) ?_
 refine Zy (AA (cs' := #[_, _]) rfl rfl rfl B1 rfl (Nat.le_of_ble_eq_true rfl) rfl) ?_
 refine Zx <| DC.seq <| Zs ?_
 refine Zf KC ?_
 refine Zl GV ?_
 refine Zo (BS rfl rfl rfl) ?_
 refine Zx ?_
 refine Zd (fun c2 => ?_) fun c2 => ?_
 ·refine Zs ?_
  refine Za ?_
  refine Zx <| DC.ret <| Aa ?_
  refine Fin.weak (E' := [(4, _)]) ⟨rfl, trivial⟩ .nil ?_
  refine Aj (.inl rfl) rfl rfl ?_
  exact ⟨rfl, rfl⟩
 ·exact absurd c2 (by simpa using hc0)
theorem EH {w : World} : Calls Tryz.prog 29 #[] w (Ret w [] fun r M => ∃ g, r = .agg #[.int .i64 4, .slice (some ⟨g, 0, none⟩) 6 6] ∧ M = [blk g 43 (prs es4).toArray]) := by
 refine At (K := []) (args := []) (L := []) Tryz.func29 rfl Tryz.ntmps29 rfl (Own.start _ _) ?_
 refine Zs ?_
 refine Zw (AH rfl JY rfl) fun g0 => ?_
 refine Zx <| Zs ?_
 refine Zo (AD (cs := #[_, _]) rfl rfl Iy rfl rfl) ?_
 refine Zo (AD (cs := #[_, _]) rfl rfl Iy rfl rfl) ?_
 refine Zo (AD (cs := #[_, _]) rfl rfl Iy rfl rfl) ?_
 refine Zo (AD (cs := #[_, _]) rfl rfl Iy rfl rfl) ?_
 refine Zo (AD (cs := #[_, _]) rfl rfl Iy rfl rfl) ?_
 refine Zo (AD (cs := #[_, _]) rfl rfl Iy rfl rfl) ?_
 refine Zw (AP (cs := #[_, _, _, _, _, _, _, _, _, _, _, _]) rfl rfl Tryz.underlying22 Bb CI rfl (by decide) (by decide) rfl rfl) fun g7 => ?_
 refine Zo (AD (cs := #[_, _]) rfl rfl KN rfl rfl) ?_
 refine Zy (AA (cs' := #[_, _]) rfl rfl rfl Bc rfl (Nat.le_of_ble_eq_true rfl) rfl) ?_
 refine Zx <| DC.ret ?_
 refine BX (cs := #[_, _]) (.inl rfl) rfl rfl Bj Bc ?_
 exact ⟨_, fun w hw => hw.pick (.cons 0 rfl .nil), g7, rfl, rfl⟩
theorem Jd {w0 w : World} {K : List Nat} {L : List Chunk} {g t : Nat} {v0 v1 v2 v3 : Value} {l0 l1 l2 l3 : List Int} [h : Find L g t #[v0, v1, v2, v3]] (hw : Own w0 K w L) (h0 : SlV w v0 l0) (h1 : SlV w v1 l1) (h2 : SlV w v2 l2) (h3 : SlV w v3 l3) :
  LsV w (.slice (some ⟨g, 0, none⟩) 4 4) [l0, l1, l2, l3] := by
 have hg := hw.holds _ h.mem
 refine ⟨some ⟨g, 0, none⟩, 4, rfl, fun i l hl => ?_, by simp, by decide, by simp⟩
 rcases lt4 hl with ⟨rfl, rfl⟩ | ⟨rfl, rfl⟩ | ⟨rfl, rfl⟩ | ⟨rfl, rfl⟩
 ·exact ⟨_, v0, rfl, by rw [AC]; exact JL hg rfl, h0⟩
 ·exact ⟨_, v1, rfl, by rw [AC]; exact JL hg rfl, h1⟩
 ·exact ⟨_, v2, rfl, by rw [AC]; exact JL hg rfl, h2⟩
 ·exact ⟨_, v3, rfl, by rw [AC]; exact JL hg rfl, h3⟩
theorem K7 {w : World} {c : Nat} (hc : c ≤ 9223372036854775807) : PrV w (.slice none 0 c) [] := ⟨none, c, rfl, fun j u h => by simp [prs] at h, Nat.zero_le _, hc, by simp⟩
theorem lsv_nil {w : World} {c : Nat} (hc : c ≤ 9223372036854775807) : LsV w (.slice none 0 c) [] := ⟨none, c, rfl, fun i l h => by simp at h, Nat.zero_le _, hc, by simp⟩
theorem IK {w : World} (hp : Pow w) : Calls Tryz.prog 9 #[] w (Ret w [] fun r M => M = [] ∧ r = .bool true) := by
 refine At (K := []) (args := []) (L := []) Tryz.func9 rfl Tryz.ntmps9 rfl (Own.start _ _) ?_
 refine Zs ?_
 refine Za ?_
 refine Zx <| Zs ?_
 refine Seq.rel rfl rfl (Aq en29 rfl rfl rfl (fun w hw => EH)) ?_
 rintro _ _ ⟨g5, rfl, rfl⟩
 simp only [List.cons_append, List.nil_append, List.append_nil]
 refine Zw (AP (cs := #[_, _, _]) rfl rfl Tryz.underlying44 AN B6 rfl (by decide) (by decide) rfl rfl) fun g6 => ?_
 refine Zw (AP (cs := #[_, _, _]) rfl rfl Tryz.underlying44 AN B6 rfl (by decide) (by decide) rfl rfl) fun g7 => ?_
 refine Zw (AP (cs := #[_, _, _]) rfl rfl Tryz.underlying44 AN B6 rfl (by decide) (by decide) rfl rfl) fun g8 => ?_
 refine Zw (AP (cs := #[_, _, _]) rfl rfl Tryz.underlying44 AN B6 rfl (by decide) (by decide) rfl rfl) fun g9 => ?_
 refine Zw (AP (cs := #[_, _, _, _]) rfl rfl Tryz.underlying25 Bn CH rfl (by decide) (by decide) rfl rfl) fun g10 => ?_
 refine Zo (AD (cs := #[_, _, _]) rfl rfl bs27 rfl rfl) ?_
 refine Seq.rel0 rfl rfl (Aq KG rfl rfl rfl (fun w hw => B5 (N := 4) (es := es4) (pl := true) (ls := lsA) (cs := []) (FW (g := g5) hw rfl rfl (by decide)) (Jd (g := g10) hw (Ch (g := g6) hw rfl rfl (by decide)) (Ch (g := g7) hw rfl rfl (by decide)) (Ch (g := g8) hw rfl rfl (by decide)) (Ch (g := g9) hw rfl rfl (by decide))) (K7 (by decide)) (hp.keep0 hw) (by decide))) ?_
 rintro _ rfl
 rw [chkA]
 refine Za ?_
 refine Zx <| Zs ?_
 refine Seq.rel rfl rfl (Aq en29 rfl rfl rfl (fun w hw => EH)) ?_
 rintro _ _ ⟨g13, rfl, rfl⟩
 simp only [List.cons_append, List.nil_append, List.append_nil]
 refine Zw (AP (cs := #[_, _, _]) rfl rfl Tryz.underlying44 AN B6 rfl (by decide) (by decide) rfl rfl) fun g14 => ?_
 refine Zw (AP (cs := #[_, _, _]) rfl rfl Tryz.underlying44 AN B6 rfl (by decide) (by decide) rfl rfl) fun g15 => ?_
 refine Zw (AP (cs := #[_, _, _]) rfl rfl Tryz.underlying44 AN B6 rfl (by decide) (by decide) rfl rfl) fun g16 => ?_
 refine Zw (AP (cs := #[_, _, _]) rfl rfl Tryz.underlying44 AN B6 rfl (by decide) (by decide) rfl rfl) fun g17 => ?_
 refine Zw (AP (cs := #[_, _, _, _]) rfl rfl Tryz.underlying25 Bn CH rfl (by decide) (by decide) rfl rfl) fun g18 => ?_
 refine Zo (AD (cs := #[_, _, _]) rfl rfl bs27 rfl rfl) ?_
 refine Seq.rel0 rfl rfl (Aq KG rfl rfl rfl (fun w hw => B5 (N := 4) (es := es4) (pl := true) (ls := lsB) (cs := []) (FW (g := g13) hw rfl rfl (by decide)) (Jd (g := g18) hw (Ch (g := g14) hw rfl rfl (by decide)) (Ch (g := g15) hw rfl rfl (by decide)) (Ch (g := g16) hw rfl rfl (by decide)) (Ch (g := g17) hw rfl rfl (by decide))) (K7 (by decide)) (hp.keep0 hw) (by decide))) ?_
 rintro _ rfl
 rw [chkB]
 refine Za ?_
 refine Zx <| Zs ?_
 refine Seq.rel rfl rfl (Aq en29 rfl rfl rfl (fun w hw => EH)) ?_
 rintro _ _ ⟨g21, rfl, rfl⟩
 simp only [List.cons_append, List.nil_append, List.append_nil]
 refine Zo (AD (cs := #[_, _]) rfl rfl Iy rfl rfl) ?_
 refine Zo (AD (cs := #[_, _]) rfl rfl Iy rfl rfl) ?_
 refine Zw (AP (cs := #[_, _, _, _]) rfl rfl Tryz.underlying22 Bb CI rfl (by decide) (by decide) rfl rfl) fun g24 => ?_
 refine Zo (AD (cs := #[_, _, _]) rfl rfl bs27 rfl rfl) ?_
 refine Seq.rel0 rfl rfl (Aq KG rfl rfl rfl (fun w hw => B5 (N := 4) (es := es4) (pl := false) (ls := []) (cs := cs4) (FW (g := g21) hw rfl rfl (by decide)) (lsv_nil (by decide)) (FW (g := g24) hw rfl rfl (by decide)) (hp.keep0 hw) (by simp))) ?_
 rintro _ rfl
 rw [chkC]
 refine Za ?_
 refine Zx <| Zs ?_
 refine Zw (AP (cs := #[_, _, _, _, _, _, _, _]) rfl rfl Tryz.underlying47 sz5 ze5 rfl (by decide) (by decide) rfl rfl) fun g27 => ?_
 refine Seq.gen rfl rfl (g_mark (cs := #[_, _, _, _, _, _, _, _]) rfl rfl Tryz.underlying47 Tryz.underlying5 (fun w hw => hw)) ?_
 rintro _ _ ⟨rfl, rfl⟩
 refine Seq.rel0 rfl rfl (Aq en19 rfl rfl rfl (fun w hw => Bytes_bad (bs := txt4) (c := 24) (a := 6) (byv_fro (bs := txt4) (cap := 8) (sp := []) hw 0 rfl (by decide) (by decide)) raw4)) ?_
 rintro _ rfl
 refine Za ?_
 refine Zx <| Zs ?_
 refine Zm ?_
 refine Zo (AX rfl rfl rfl) ?_
 refine Zm ?_
 refine Seq.split 32 rfl (fun k5_2 => ?_) (fun k5_2 => ?_)
 ·refine Zm ?_
  refine Zo (AX rfl rfl rfl) ?_
  refine Zt ?_
  refine Zm ?_
  refine Seq.split 36 rfl (fun k5_6 => ?_) (fun k5_6 => ?_)
  ·refine Zm ?_
   refine Zo (AX rfl rfl rfl) ?_
   refine Zt ?_
   refine Zm ?_
   refine Seq.split 40 rfl (fun k5_10 => ?_) (fun k5_10 => ?_)
   ·refine Zm ?_
    refine Zo (AX rfl rfl rfl) ?_
    refine Zt ?_
    refine Za ?_
    refine Zx <| DC.ret ?_
    refine Fin.weak (E' := [(0, _)]) ⟨rfl, trivial⟩ .nil ?_
    refine Aj (.inl rfl) rfl rfl ?_
    exact ⟨rfl, rfl⟩
   ·exact absurd k5_10 (by decide)
  ·exact absurd k5_6 (by decide)
 ·exact absurd k5_2 (by decide)
theorem KA {es : List Pr} {h : Int} (h0 : 0 ≤ h) (h1 : h < es.length * 2) : ∃ e, es[(h / 2).toNat]? = some e ∧ fromV es h = (if h % 2 = 0 then e.1 else e.2) := by
 obtain ⟨k, rfl⟩ := Int.eq_ofNat_of_zero_le h0
 obtain ⟨e, he, hf⟩ := frs_at (es := es) (h := k) (by omega)
 refine ⟨e, by rw [show ((k : Int) / 2).toNat = k / 2 by omega]; exact he, ?_⟩
 unfold fromV
 rw [if_pos h0, Int.toNat_natCast, hf]
 by_cases hp : k % 2 = 0
 ·rw [if_pos hp, if_pos (by omega)]; rfl
 ·rw [if_neg hp, if_neg (by omega)]; rfl
theorem Er {N h : Int} {es : List Pr} {va : Value} {w : World} (hg : PrV w va es) (h0 : 0 ≤ h) (h1 : h < es.length * 2) :
  Calls Tryz.prog 100 #[.agg #[.int .i64 N, va], .int .i64 h] w (Ret w [] fun r M => M = [] ∧ r = .int .i64 (fromV es h)) := by
 obtain ⟨A, cap, rfl, hr, hlc, hcm, hl⟩ := hg
 obtain ⟨e, he, hf⟩ := KA h0 h1
 obtain ⟨ad, rfl, hU, hVe⟩ := hr.pair he
 refine At (K := []) (args := [_, _]) (L := []) Tryz.func100 rfl Tryz.ntmps100 rfl (Own.start _ _) ?_
 refine Zs ?_
 refine Zw (AS rfl rfl rfl) fun g2 => ?_
 refine Za ?_
 refine Zx <| DC.seq <| Zs ?_
 refine Zm ?_
 refine Zo (K8 rfl rfl rfl (by omega) (by omega)) ?_
 refine Zo (AX rfl rfl rfl) ?_
 refine Zx ?_
 refine Zd (fun c1 => ?_) fun c1 => ?_
 ·refine Zs ?_
  refine Zf Be ?_
  refine Zl BO ?_
  refine Zm ?_
  refine Zo (I0 rfl rfl rfl (by omega) (by omega)) ?_
  refine Zo (AQ (ad' := ad.add ((h / 2).toNat * 2)) rfl rfl rfl Tryz.underlying22 Bb (by omega) (by omega) rfl) ?_
  refine Zo (CL (ad' := ad.add ((h / 2).toNat * 2)) rfl rfl Bd (by simp [Addr.add])) ?_
  refine Zu (Ah rfl rfl AO (AE hU)) ?_
  refine Za ?_
  refine Zx <| DC.ret <| Aa ?_
  refine Fin.weak (E' := [(4, _)]) ⟨rfl, trivial⟩ .nil ?_
  refine Aj (.inl rfl) rfl rfl ?_
  refine ⟨rfl, ?_⟩
  rw [hf, if_pos (by simpa using c1)]
 ·refine DC.skip <| Fin.then <| Zs ?_
  refine Zf Be ?_
  refine Zl BO ?_
  refine Zm ?_
  refine Zo (I0 rfl rfl rfl (by omega) (by omega)) ?_
  refine Zo (AQ (ad' := ad.add ((h / 2).toNat * 2)) rfl rfl rfl Tryz.underlying22 Bb (by omega) (by omega) rfl) ?_
  refine Zo (CL (ad' := ad.add ((h / 2).toNat * 2 + 1)) rfl rfl Bu (DK _ _ _ (by decide))) ?_
  refine Zu (Ah rfl rfl AO (AE hVe)) ?_
  refine Za ?_
  refine Zx <| DC.ret ?_
  refine Fin.weak (E' := [(4, _)]) ⟨rfl, trivial⟩ .nil ?_
  refine Aj (.inl rfl) rfl rfl ?_
  refine ⟨rfl, ?_⟩
  rw [hf, if_neg (by simpa using c1)]
/-! ### degree -/
def dgF (es : List Pr) (v : Int) (j : Nat) : Nat := (List.range j).countP fun (h : Nat) => decide (fromV es (h : Int) = v)
theorem JE (es : List Pr) (v : Int) (j : Nat) : dgF es v (j + 1) = dgF es v j + if fromV es (j : Int) = v then 1 else 0 := by
 unfold dgF
 rw [List.range_succ, List.countP_append]
 by_cases h : fromV es (j : Int) = v <;> simp [h]
theorem dgF_le (es : List Pr) (v : Int) (j : Nat) : dgF es v j ≤ j := by
 have := List.countP_le_length (p := fun (h : Nat) => decide (fromV es (h : Int) = v)) (l := List.range j)
 simpa [dgF] using this
theorem dgF_all {N : Int} {es : List Pr} (hV : Vld N es) (v : Nat) : (dgF es v (es.length * 2) : Int) = cnt es v := by
 have hp : (((List.range (es.length * 2)).filter fun (h : Nat) => decide (fromV es (h : Int) = (v : Int))).map fun (h : Nat) => (h : Int)).Perm (outs es v) := by
  refine (List.perm_ext_iff_of_nodup ?_ ?_).2 fun x => ?_
  ·exact List.Pairwise.map _ (fun a b h e => h (by exact Int.ofNat.inj e)) (List.Pairwise.filter _ List.nodup_range)
  ·exact ((CN es 0 v).1).imp (fun h => Int.ne_of_lt h)
  ·rw [A8 hV, List.mem_map]
   constructor
   ·rintro ⟨h, hh, rfl⟩
    rw [List.mem_filter, List.mem_range] at hh
    exact ⟨by omega, by omega, by simpa using hh.2⟩
   ·rintro ⟨h0, h1, h2⟩
    exact ⟨x.toNat, by rw [List.mem_filter, List.mem_range]; exact ⟨by omega, by simpa [Int.toNat_of_nonneg h0] using h2⟩, Int.toNat_of_nonneg h0⟩
 have := hp.length_eq
 rw [List.length_map] at this
 unfold dgF cnt
 rw [List.countP_eq_length_filter, this]
theorem FR {N : Int} {v : Nat} {es : List Pr} {va : Value} {w : World} (hg : PrV w va es) (hV : Vld N es) :
  Calls Tryz.prog 65 #[.agg #[.int .i64 N, va], .int .i64 v] w (Ret w [] fun r M => M = [] ∧ r = .int .i64 (cnt es v)) := by
 have hfew := hV.few
 obtain ⟨A, cap, hva, _⟩ := id hg
 subst hva
 refine At (K := []) (args := [_, _]) (L := []) Tryz.func65 rfl Tryz.ntmps65 rfl (Own.start _ _) ?_
 refine Zs ?_
 refine Zw (AS rfl rfl rfl) fun g2 => ?_
 refine Za ?_
 refine Zx <| Zs ?_
 refine Za ?_
 refine Zx <| DC.seq <| Zs ?_
 refine Za ?_
 refine Zx <| DC.block ?_
 refine DC.loop (ι := Nat) (fun j => j ≤ es.length * 2) (fun j => [(1, .int .i64 v), (2, .pointer (some ⟨g2, 0, none⟩)), (5, .int .i64 (dgF es v j : Nat)), (6, .int .i64 (j : Nat))])
  (fun _ => [blk g2 24 #[.int .i64 N, .slice A es.length cap]]) (fun j => es.length * 2 - j) 0 (Nat.zero_le _) ⟨rfl, rfl, rfl, rfl, trivial⟩ (.cons 0 rfl .nil) ?_
 intro j hj
 have hdg := dgF_le es v j
 refine DC.seq <| Zs ?_
 refine Zm ?_
 refine Zf Be ?_
 refine Zl BO ?_
 refine Zn Tryz.underlying22 ?_
 refine Zo (Cb rfl rfl rfl (by omega)) ?_
 refine Zc ?_
 refine Zx ?_
 refine Zd (fun c3 => ?_) fun c3 => ?_
 ·have hlt : j < es.length * 2 := by simp at c3; omega
  refine DC.skip <| Fin.then <| DC.seq <| DC.block <| Zs ?_
  refine Zu (Ay (vs := [_, _]) rfl rfl Bj Bc rfl (Ak rfl)) ?_
  refine Zm ?_
  refine Seq.rel0 rfl rfl (Aq en100 rfl rfl rfl (fun w hw => Er (hg.keep0 hw) (by omega) (by omega))) ?_
  rintro _ rfl
  refine Zm ?_
  refine Zo (AX rfl rfl rfl) ?_
  refine Zx ?_
  refine Zd (fun c5 => ?_) fun c5 => ?_
  ·refine DC.region ?_
   refine Zm ?_
   refine Zp ?_
   refine Za ?_
   refine Seq.nil <| Fin.inBlock <| Fin.then <| DC.region ?_
   refine Zm ?_
   refine Zp ?_
   refine Za ?_
   refine Seq.nil ?_
   refine Fin.again (j + 1) (by omega) (by omega) ⟨rfl, rfl, ?_, rfl, trivial⟩ (.cons 0 rfl .nil)
   rw [JE, if_pos (by simpa using c5)]; rfl
  ·refine DC.skip <| Fin.inBlock <| Fin.then <| DC.region ?_
   refine Zm ?_
   refine Zp ?_
   refine Za ?_
   refine Seq.nil ?_
   refine Fin.again (j + 1) (by omega) (by omega) ⟨rfl, rfl, ?_, rfl, trivial⟩ (.cons 0 rfl .nil)
   rw [JE, if_neg (by simpa using c5)]; rfl
 ·refine DC.exit <| Ad <| Ad <| Ag <| Fin.then <| Zs ?_
  refine Zm ?_
  refine Za ?_
  refine Zx <| DC.ret ?_
  refine Fin.weak (E' := [(4, _)]) ⟨rfl, trivial⟩ .nil ?_
  refine Aj (.inl rfl) rfl rfl ?_
  have he : j = es.length * 2 := by simp at c3; omega
  subst he
  exact ⟨rfl, by rw [dgF_all hV]⟩
theorem FP {n : Nat} {x : Int} {l : List Int} {vl : Value} {w : World} (hl : SlV w vl l) (hn : n ≤ l.length) :
  Calls Tryz.prog 64 #[vl, .int .i64 n, .int .i64 x] w (Ret w [] fun r M => M = [] ∧ ∃ b, r = .bool b ∧ (b = true ↔ x ∈ l.take n)) := by
 obtain ⟨A, cap, rfl, hr, hlc, hcm, hle⟩ := hl
 refine At (K := []) (args := [_, _, _]) (L := []) Tryz.func64 rfl Tryz.ntmps64 rfl (Own.start _ _) ?_
 refine Zs ?_
 refine Za ?_
 refine Zx <| DC.seq <| Zs ?_
 refine Za ?_
 refine Zx <| DC.block ?_
 refine DC.loop (ι := Nat) (fun j => j ≤ n ∧ x ∉ l.take j) (fun j => [(0, .slice A l.length cap), (1, .int .i64 n), (2, .int .i64 x), (7, .int .i64 (j : Nat))])
  (fun _ => []) (fun j => n - j) 0 ⟨Nat.zero_le _, by simp⟩ ⟨rfl, rfl, rfl, rfl, trivial⟩ .nil ?_
 rintro j ⟨hj, hno⟩
 refine DC.seq <| Zs ?_
 refine Zm ?_
 refine Zm ?_
 refine Zc ?_
 refine Zx ?_
 refine Zd (fun c2 => ?_) fun c2 => ?_
 ·have hlt : j < n := by simpa using c2
  obtain ⟨y, hy⟩ : ∃ y, l[j]? = some y := ⟨_, List.getElem?_eq_getElem (by omega)⟩
  obtain ⟨ad, rfl, hc⟩ := hr.int hy
  have htk : l.take (j + 1) = l.take j ++ [y] := by rw [List.take_add_one, hy]; rfl
  refine DC.skip <| Fin.then <| DC.seq <| DC.block <| Zs ?_
  refine Zm ?_
  refine Zm ?_
  refine Zo (Ai (ad' := ad.add j) rfl rfl rfl Tryz.underlying44 AN (by omega) (by omega) (by rw [Int.toNat_natCast])) ?_
  refine Zu (Ah rfl rfl AO (AE hc)) ?_
  refine Zm ?_
  refine Zo (AX rfl rfl rfl) ?_
  refine Zx ?_
  refine Zd (fun c4 => ?_) fun c4 => ?_
  ·refine Zs ?_
   refine Za ?_
   refine Zx <| DC.ret <| Ae <| Aa <| Aa <| Ae <| Aa ?_
   refine Fin.weak (E' := [(6, _)]) ⟨rfl, trivial⟩ .nil ?_
   refine Aj (.inl rfl) rfl rfl ?_
   have hm : (l.take n)[j]? = some x := by
    rw [List.getElem?_take, if_pos hlt, hy]
    congr 1; simpa using c4
   exact ⟨rfl, true, rfl, by simp only [true_iff]; exact List.mem_of_getElem? hm⟩
  ·refine DC.skip <| Fin.inBlock <| Fin.then <| DC.region ?_
   refine Zm ?_
   refine Zp ?_
   refine Za ?_
   refine Seq.nil ?_
   refine Fin.again (j + 1) (by omega) ⟨by omega, ?_⟩ ⟨rfl, rfl, rfl, rfl, trivial⟩ .nil
   rw [htk, List.mem_append]
   rintro (h | h)
   ·exact hno h
   ·simp at h c4; exact c4 h.symm
 ·refine DC.exit <| Ad <| Ad <| Ag <| Fin.then <| Zs ?_
  refine Za ?_
  refine Zx <| DC.ret ?_
  refine Fin.weak (E' := [(6, _)]) ⟨rfl, trivial⟩ .nil ?_
  refine Aj (.inl rfl) rfl rfl ?_
  have hjn : j = n := by simp at c2; omega
  subst hjn
  exact ⟨rfl, false, rfl, by simp [hno]⟩
theorem Ht : ∀ {a b : List Int}, a.Nodup → (∀ x, x ∈ a → x ∈ b) → a.length ≤ b.length
 | [], b, _, _ => Nat.zero_le _
 | x :: r, b, hn, h => by
  rw [List.nodup_cons] at hn
  have hx := h x (List.mem_cons_self ..)
  have := Ht (b := b.erase x) hn.2 (fun y hy => (List.mem_erase_of_ne (fun e => hn.1 (by rw [← e]; exact hy))).2 (h y (List.mem_cons_of_mem _ hy)))
  rw [List.length_erase_of_mem hx] at this
  have := List.length_pos_of_mem hx
  simp; omega
theorem I9 {l : List Int} (h : l.Nodup) {i j : Nat} {x : Int} (hi : l[i]? = some x) (hj : l[j]? = some x) : i = j := by
 obtain ⟨h1, e1⟩ := List.getElem?_eq_some_iff.1 hi
 obtain ⟨h2, e2⟩ := List.getElem?_eq_some_iff.1 hj
 rcases Nat.lt_trichotomy i j with h3 | h3 | h3
 ·exact absurd (e1.trans e2.symm) (List.pairwise_iff_getElem.1 h i j h1 h2 h3)
 ·exact h3
 ·exact absurd (e2.trans e1.symm) (List.pairwise_iff_getElem.1 h j i h2 h1 h3)
theorem FQ {N h : Int} {v : Nat} {es : List Pr} {va : Value} {w : World} (hg : PrV w va es) (hl : es.length ≤ 1000000000) :
  Calls Tryz.prog 189 #[.agg #[.int .i64 N, va], .int .i64 h, .int .i64 v] w (Ret w [] fun r M => M = [] ∧ ∃ b, r = .bool b ∧ (b = true ↔ 0 ≤ h ∧ h < es.length * 2 ∧ fromV es h = v)) := by
 obtain ⟨A, cap, hva, _⟩ := id hg
 subst hva
 refine At (K := []) (args := [_, _, _]) (L := []) Tryz.func189 rfl Tryz.ntmps189 rfl (Own.start _ _) ?_
 refine Zs ?_
 refine Zw (AS rfl rfl rfl) fun g3 => ?_
 refine Za ?_
 refine Zx <| Zs ?_
 refine Zm ?_
 refine Zo (Ck rfl rfl rfl) ?_
 refine Zm ?_
 refine Seq.split 9 rfl (fun k1_2 => ?_) (fun k1_2 => ?_)
 ·refine Zm ?_
  refine Zf Be ?_
  refine Zl BO ?_
  refine Zn Tryz.underlying22 ?_
  refine Zo (Cb rfl rfl rfl (by omega)) ?_
  refine Zc ?_
  refine Zt ?_
  refine Zm ?_
  refine Seq.split 17 rfl (fun k1_10 => ?_) (fun k1_10 => ?_)
  ·refine Zu (Ay (vs := [_, _]) rfl rfl Bj Bc rfl (Ak rfl)) ?_
   refine Zm ?_
   refine Seq.rel0 rfl rfl (Aq en100 rfl rfl rfl (fun w hw => Er (hg.keep0 hw) (by simp at k1_2; omega) (by simp at k1_10; omega))) ?_
   rintro _ rfl
   refine Zm ?_
   refine Zo (AX rfl rfl rfl) ?_
   refine Zt ?_
   refine Za ?_
   refine Zx <| DC.ret ?_
   refine Fin.weak (E' := [(6, _)]) ⟨rfl, trivial⟩ .nil ?_
   refine Aj (.inl rfl) rfl rfl ?_
   refine ⟨rfl, _, rfl, ?_⟩
   first
   | (simp at k1_2 k1_10 ⊢; omega)
   | (simp at k1_2 ⊢; omega)
  ·refine Zk ?_
   refine Zk ?_
   refine Zk ?_
   refine Zk ?_
   refine Zk ?_
   refine Zg ?_
   refine Za ?_
   refine Zx <| DC.ret ?_
   refine Fin.weak (E' := [(6, _)]) ⟨rfl, trivial⟩ .nil ?_
   refine Aj (.inl rfl) rfl rfl ?_
   refine ⟨rfl, _, rfl, ?_⟩
   first
   | (simp at k1_2 k1_10 ⊢; omega)
   | (simp at k1_2 ⊢; omega)
 ·refine Zk ?_
  refine Zk ?_
  refine Zk ?_
  refine Zk ?_
  refine Zk ?_
  refine Zk ?_
  refine Zg ?_
  refine Zm ?_
  refine Zk ?_
  refine Zk ?_
  refine Zk ?_
  refine Zk ?_
  refine Zk ?_
  refine Zg ?_
  refine Za ?_
  refine Zx <| DC.ret ?_
  refine Fin.weak (E' := [(6, _)]) ⟨rfl, trivial⟩ .nil ?_
  refine Aj (.inl rfl) rfl rfl ?_
  refine ⟨rfl, _, rfl, ?_⟩
  first
  | (simp at k1_2 k1_10 ⊢; omega)
  | (simp at k1_2 ⊢; omega)
theorem Gq {N : Int} {es : List Pr} {rs : List (List Int)} {va v : Value} {w : World} (hg : PrV w va es) (hl : LsV w v rs) (hs : ∀ l, l ∈ rs → l.length ≤ 1000000000) :
  Calls Tryz.prog 173 #[.agg #[.int .i64 N, va], v] w (Ret w [] fun r M => M = [] ∧ ∃ x e, r = .tuple #[.int .i64 x, .int .i64 e] ∧ (e = 0 ↔ RotL N es rs)) := by
 obtain ⟨A, cap, hva, _⟩ := id hg
 subst hva
 obtain ⟨B, capb, rfl, hrb, hlb, hcb, hleb⟩ := hl
 refine At (K := []) (args := [_, _]) (L := []) Tryz.func173 rfl Tryz.ntmps173 rfl (Own.start _ _) ?_
 refine Zs ?_
 refine Zw (AS rfl rfl rfl) fun g2 => ?_
 refine Za ?_
 refine Za ?_
 refine Zx <| DC.seq <| Zs ?_
 refine Zu (Ay (vs := [_, _]) rfl rfl Bj Bc rfl (Ak rfl)) ?_
 refine Seq.rel0 rfl rfl (Aq en14 rfl rfl rfl (fun w hw => Db (hg.keep0 hw))) ?_
 rintro _ ⟨bv, rfl, hbv⟩
 refine Zo (Bh rfl rfl) ?_
 refine Zx ?_
 refine Zd (fun c1 => ?_) fun c1 => ?_
 ·refine Zs ?_
  refine Za ?_
  refine Za ?_
  refine Zx <| DC.ret <| Aa ?_
  refine Fin.weak (E' := [(4, _), (5, _)]) ⟨rfl, rfl, trivial⟩ .nil ?_
  refine AJ (.inl rfl) rfl rfl rfl ?_
  exact ⟨rfl, 0, 1, rfl, by simp; intro h; rw [hbv.2 h.1] at c1; simp at c1⟩
 ·refine DC.skip <| Fin.then <| DC.seq <| Zs ?_
  refine Zm ?_
  refine Zn Tryz.underlying59 ?_
  refine Zf BF ?_
  refine Zl AO ?_
  refine Zo (BS rfl rfl rfl) ?_
  refine Zx ?_
  refine Zd (fun c3 => ?_) fun c3 => ?_
  ·refine Zs ?_
   refine Za ?_
   refine Za ?_
   refine Zx <| DC.ret <| Aa ?_
   refine Fin.weak (E' := [(4, _), (5, _)]) ⟨rfl, rfl, trivial⟩ .nil ?_
   refine AJ (.inl rfl) rfl rfl rfl ?_
   exact ⟨rfl, 0, 110, rfl, by simp; intro h; have := h.2.1; simp at c3; exact c3 this⟩
  ·refine DC.skip <| Fin.then <| DC.seq <| DC.seq ?_
   have hV : Vld N es := hbv.1 (by simpa using c1)
   have hN : (rs.length : Int) = N := by simpa using c3
   subst hN
   have hNm := hV.hi
   have hfew := hV.few
   refine DC.region ?_
   refine Za ?_
   refine Zx <| DC.block ?_
   refine DC.loop (ι := Nat) (fun x => x ≤ rs.length ∧ ∀ (y : Nat) l, y < x → rs[y]? = some l → (∀ h, h ∈ l → 0 ≤ h ∧ h < es.length * 2 ∧ fromV es h = y) ∧ l.Nodup ∧ (l.length : Int) = cnt es y) (fun x => [(1, .slice B rs.length capb), (2, .pointer (some ⟨g2, 0, none⟩)), (6, .int .i64 (x : Nat))])
    (fun _ => [blk g2 24 #[.int .i64 rs.length, .slice A es.length cap]]) (fun x => rs.length - x) 0 ⟨Nat.zero_le _, fun y l hy => absurd hy (Nat.not_lt_zero _)⟩ ⟨rfl, rfl, rfl, trivial⟩ (.cons 0 rfl .nil) ?_
   rintro x ⟨hx, hD⟩
   refine DC.seq <| Zs ?_
   refine Zm ?_
   refine Zf BF ?_
   refine Zl AO ?_
   refine Zc ?_
   refine Zx ?_
   refine Zd (fun c6 => ?_) fun c6 => ?_
   ·have hxl : x < rs.length := by simpa using c6
    obtain ⟨l, hlx⟩ : ∃ l, rs[x]? = some l := ⟨_, List.getElem?_eq_getElem hxl⟩
    obtain ⟨ad, lv, rfl, hlc, hSl⟩ := hrb x l hlx
    have hll := hs l (List.mem_of_getElem? hlx)
    have hSl0 := hSl
    obtain ⟨A2, cap2, rfl, hr2, _, _, _⟩ := hSl
    refine DC.skip <| Fin.then <| DC.seq <| DC.block <| DC.seq <| Zs ?_
    refine Za ?_
    refine Zx <| DC.block ?_
    refine DC.loop (ι := Nat) (fun i => i ≤ l.length ∧ (∀ h, h ∈ l.take i → 0 ≤ h ∧ h < es.length * 2 ∧ fromV es h = x) ∧ (l.take i).Nodup) (fun i => [(1, .slice (some ad) rs.length capb), (2, .pointer (some ⟨g2, 0, none⟩)), (6, .int .i64 (x : Nat)), (7, .int .i64 (i : Nat))])
     (fun _ => [blk g2 24 #[.int .i64 rs.length, .slice A es.length cap]]) (fun i => l.length - i) 0 ⟨Nat.zero_le _, by simp, by simp⟩ ⟨rfl, rfl, rfl, rfl, trivial⟩ (.cons 0 rfl .nil) ?_
    rintro i ⟨hi, hfr, hnd⟩
    refine DC.seq <| Zs ?_
    refine Zm ?_
    refine Zm ?_
    refine Zm ?_
    refine Zo (Ai (ad' := ad.add x) rfl rfl rfl Tryz.underlying59 Bn (by omega) (by omega) (by rw [Int.toNat_natCast])) ?_
    refine Zu (Ah rfl rfl Bo (AE hlc)) ?_
    refine Zn Tryz.underlying44 ?_
    refine Zc ?_
    refine Zx ?_
    refine Zd (fun c9 => ?_) fun c9 => ?_
    ·have hil : i < l.length := by simpa using c9
     obtain ⟨u, hu⟩ : ∃ u, l[i]? = some u := ⟨_, List.getElem?_eq_getElem hil⟩
     obtain ⟨ad2, rfl, hcu⟩ := hr2.int hu
     have htk : l.take (i + 1) = l.take i ++ [u] := by rw [List.take_add_one, hu]; rfl
     refine DC.skip <| Fin.then <| DC.seq <| DC.block <| DC.seq <| DC.seq ?_
     refine AG (cl := [.v, .q, .q, .q, .v, .q, .q, .v, .q, .r, .q]) (A := [0, 0, 0, 6, 14, 0, 62, 126, 0, 511, 1023]) (order := [0, 1, 2, 3, 4, 5, 6, 7, 8, 9, 10]) [] mixed (by kernel_rfl) (fun w hw => hw.pick .nil) ?_
     refine Am rfl rfl rfl rfl (Ay (vs := [_, _]) rfl rfl Bj Bc rfl (Ak rfl)) ?_
     refine Ym ?_
     refine Ym ?_
     refine Yo rfl (Ai (ad' := ad.add x) rfl rfl rfl Tryz.underlying59 Bn (by omega) (by omega) (by rw [Int.toNat_natCast])) ?_
     refine Am rfl rfl rfl rfl (Ah rfl rfl Bo (AE hlc)) ?_
     refine Ym ?_
     refine Yo rfl (Ai (ad' := ad2.add i) rfl rfl rfl Tryz.underlying44 AN (by omega) (by omega) (by rw [Int.toNat_natCast])) ?_
     refine Am rfl rfl rfl rfl (Ah rfl rfl AO (AE hcu)) ?_
     refine Ym ?_
     refine Flow.rel0 rfl rfl rfl rfl (Aq en189 rfl rfl rfl (fun w hw => FQ (hg.keep0 hw) (by omega))) ?_
     rintro _ ⟨bl, rfl, hbl⟩
     refine Yo rfl (Bh rfl rfl) ?_
     refine Flow.end rfl ?_
     simp only [zq, zr]
     refine Fin.then ?_
     refine Zd (fun c11 => ?_) fun c11 => ?_
     ·refine Zs ?_
      refine Zm ?_
      refine Za ?_
      refine Za ?_
      refine Zx <| DC.ret <| Aa <| Ae <| Aa <| Aa <| Ae <| Aa <| Ae <| Aa <| Aa <| Ae <| Aa ?_
      refine Fin.weak (E' := [(4, _), (5, _)]) ⟨rfl, rfl, trivial⟩ .nil ?_
      refine AJ (.inl rfl) rfl rfl rfl ?_
      refine ⟨rfl, x, 111, rfl, by simp; intro ho; have h9 := hbl.2 ((ho.2.2 x l hlx).1 u (List.mem_of_getElem? hu)); rw [h9] at c11; simp at c11⟩
     ·have hbl2 := hbl.1 (by simpa using c11)
      refine DC.skip <| Fin.then <| DC.seq ?_
      refine AG (cl := [.q, .q, .q, .v, .q, .q, .q, .q, .v, .q, .q, .v, .r]) (A := [0, 0, 3, 7, 0, 0, 0, 96, 224, 0, 992, 2016, 4095]) (order := [0, 1, 2, 3, 4, 5, 6, 7, 8, 9, 10, 11, 12]) [] mixed (by kernel_rfl) (fun w hw => hw.pick .nil) ?_
      refine Ym ?_
      refine Ym ?_
      refine Yo rfl (Ai (ad' := ad.add x) rfl rfl rfl Tryz.underlying59 Bn (by omega) (by omega) (by rw [Int.toNat_natCast])) ?_
      refine Am rfl rfl rfl rfl (Ah rfl rfl Bo (AE hlc)) ?_
      refine Ym ?_
      refine Ym ?_
      refine Ym ?_
      refine Yo rfl (Ai (ad' := ad.add x) rfl rfl rfl Tryz.underlying59 Bn (by omega) (by omega) (by rw [Int.toNat_natCast])) ?_
      refine Am rfl rfl rfl rfl (Ah rfl rfl Bo (AE hlc)) ?_
      refine Ym ?_
      refine Yo rfl (Ai (ad' := ad2.add i) rfl rfl rfl Tryz.underlying44 AN (by omega) (by omega) (by rw [Int.toNat_natCast])) ?_
      refine Am rfl rfl rfl rfl (Ah rfl rfl AO (AE hcu)) ?_
      refine Flow.rel0 rfl rfl rfl rfl (Aq en64 rfl rfl rfl (fun w hw => FP (hSl0.keep0 hw) (by omega))) ?_
      rintro _ ⟨bs, rfl, hbs⟩
      refine Flow.end rfl ?_
      simp only [zq, zr]
      refine Fin.then ?_
      refine Zd (fun c13 => ?_) fun c13 => ?_
      ·refine Zs ?_
       refine Zm ?_
       refine Za ?_
       refine Za ?_
       refine Zx <| DC.ret <| Ae <| Aa <| Aa <| Ae <| Aa <| Ae <| Aa <| Aa <| Ae <| Aa ?_
       refine Fin.weak (E' := [(4, _), (5, _)]) ⟨rfl, rfl, trivial⟩ .nil ?_
       refine AJ (.inl rfl) rfl rfl rfl ?_
       refine ⟨rfl, x, 112, rfl, ?_⟩
       simp
       intro ho
       have hnd := (ho.2.2 x l hlx).2.1
       have hm : u ∈ l.take i := hbs.1 c13
       obtain ⟨k, hk⟩ := List.mem_iff_getElem?.1 hm
       rw [List.getElem?_take] at hk
       split at hk
       ·have := I9 hnd hk hu; omega
       ·cases hk
      ·refine DC.skip <| Fin.inBlock <| Fin.then <| DC.region ?_
       refine Zm ?_
       refine Zp ?_
       refine Za ?_
       refine Seq.nil ?_
       have hnot : u ∉ l.take i := fun hm => by rw [hbs.2 hm] at c13; cases c13
       refine Fin.again (i + 1) (by omega) ⟨by omega, fun h hh => ?_, ?_⟩ ⟨rfl, rfl, rfl, rfl, trivial⟩ (.cons 0 rfl .nil)
       ·rw [htk, List.mem_append] at hh
        rcases hh with hh | hh
        ·exact hfr h hh
        ·simp at hh; subst hh; exact hbl2
       ·rw [htk, List.nodup_append]
        refine ⟨hnd, by simp, fun a ha b hb e => ?_⟩
        simp at hb; subst hb; subst e
        exact hnot ha
    ·refine DC.exit <| Ad <| Ad <| Ag <| Fin.then <| DC.seq ?_
     have hil : i = l.length := by simp at c9; omega
     subst hil
     rw [List.take_length] at hfr hnd
     have hqs := Ht hnd (b := outs es x) (fun h hh => (A8 hV).2 (hfr h hh))
     refine AG (cl := [.q, .q, .q, .v, .q, .v, .q, .r, .q]) (A := [0, 0, 3, 7, 15, 0, 0, 96, 255]) (order := [0, 1, 2, 3, 4, 5, 6, 7, 8]) [] mixed (by kernel_rfl) (fun w hw => hw.pick .nil) ?_
     refine Ym ?_
     refine Ym ?_
     refine Yo rfl (Ai (ad' := ad.add x) rfl rfl rfl Tryz.underlying59 Bn (by omega) (by omega) (by rw [Int.toNat_natCast])) ?_
     refine Am rfl rfl rfl rfl (Ah rfl rfl Bo (AE hlc)) ?_
     refine Yo rfl (BM rfl rfl Tryz.underlying44) ?_
     refine Am rfl rfl rfl rfl (Ay (vs := [_, _]) rfl rfl Bj Bc rfl (Ak rfl)) ?_
     refine Ym ?_
     refine Flow.rel0 rfl rfl rfl rfl (Aq en65 rfl rfl rfl (fun w hw => FR (hg.keep0 hw) hV)) ?_
     rintro _ rfl
     refine Yo rfl (Cj rfl rfl rfl) ?_
     refine Flow.end rfl ?_
     simp only [zq, zr]
     refine Fin.then ?_
     refine Zd (fun c15 => ?_) fun c15 => ?_
     ·refine Zs ?_
      refine Zm ?_
      refine Za ?_
      refine Za ?_
      refine Zx <| DC.ret <| Ae <| Aa <| Aa <| Ae <| Aa ?_
      refine Fin.weak (E' := [(4, _), (5, _)]) ⟨rfl, rfl, trivial⟩ .nil ?_
      refine AJ (.inl rfl) rfl rfl rfl ?_
      refine ⟨rfl, x, 113, rfl, ?_⟩
      simp
      intro ho
      have := (ho.2.2 x l hlx).2.2
      simp at c15; omega
     ·refine DC.skip <| Fin.inBlock <| Fin.then <| DC.region ?_
      refine Zm ?_
      refine Zp ?_
      refine Za ?_
      refine Seq.nil ?_
      refine Fin.again (x + 1) (by omega) ⟨by omega, fun y l' hy hl' => ?_⟩ ⟨rfl, rfl, rfl, trivial⟩ (.cons 0 rfl .nil)
      rcases Nat.lt_succ_iff_lt_or_eq.1 hy with hy | rfl
      ·exact hD y l' hy hl'
      ·rw [hlx] at hl'; cases hl'
       refine ⟨hfr, hnd, ?_⟩
       simp at c15
       have : cnt es y = (outs es y).length := rfl
       omega
   ·refine DC.exit <| Ad <| Ad <| Ag <| Fin.then <| Zs ?_
    refine Za ?_
    refine Za ?_
    refine Zx <| DC.ret ?_
    refine Fin.weak (E' := [(4, _), (5, _)]) ⟨rfl, rfl, trivial⟩ .nil ?_
    refine AJ (.inl rfl) rfl rfl rfl ?_
    have hxe : x = rs.length := by simp at c6; omega
    subst hxe
    exact ⟨rfl, 0, 0, rfl, by simp only [true_iff]; exact ⟨hV, rfl, fun y l hl => hD y l (List.getElem?_eq_some_iff.1 hl).1 hl⟩⟩
theorem G4 {N : Int} {es : List Pr} {rs : List (List Int)} {va v : Value} {w : World} (hg : PrV w va es) (hl : LsV w v rs) (hs : ∀ l, l ∈ rs → l.length ≤ 1000000000) (hok : RotL N es rs) :
  Calls Tryz.prog 150 #[.agg #[.int .i64 N, va], v] w (Ret w [] fun r M =>
   ∃ g f, r = .tuple #[.slice (some ⟨g, 0, none⟩) (es.length * 2) (es.length * 2), .int .i64 0] ∧ NxOk rs rs.length f ∧ M = [blk g 3 (ints (tab (es.length * 2) f)).toArray]) := by
 obtain ⟨A, cap, hva, _⟩ := id hg
 subst hva
 have hl0 := hl
 obtain ⟨B, capb, rfl, hrb, hlb, hcb, hleb⟩ := hl
 refine At (K := []) (args := [_, _]) (L := []) Tryz.func150 rfl Tryz.ntmps150 rfl (Own.start _ _) ?_
 refine Zs ?_
 refine Zw (AS rfl rfl rfl) fun g2 => ?_
 refine Za ?_
 refine Za ?_
 refine Zx <| Zs ?_
 refine Zu (Ay (vs := [_, _]) rfl rfl Bj Bc rfl (Ak rfl)) ?_
 refine Zm ?_
 refine Seq.rel0 rfl rfl (Aq en173 rfl rfl rfl (fun w hw => Gq (hg.keep0 hw) (hl0.keep0 hw) hs)) ?_
 rintro _ ⟨xv, xe, rfl, hxe⟩
 refine Zm ?_
 refine Ze ?_
 refine Ze ?_
 refine Za ?_
 refine Za ?_
 refine Zx <| DC.seq <| Zs ?_
 refine Zm ?_
 refine Zo (BS rfl rfl rfl) ?_
 refine Zx ?_
 refine Zd (fun c2 => ?_) fun c2 => ?_
 ·have := hxe.2 hok
  simp at c2; omega
 ·refine DC.skip <| Fin.then <| DC.seq ?_
  obtain ⟨hV, hN, hrow⟩ := id hok
  have hfew := hV.few
  refine DC.region ?_
  refine Zf Be ?_
  refine Zl BO ?_
  refine Zn Tryz.underlying22 ?_
  refine Zo (Cb rfl rfl rfl (by omega)) ?_
  rw [show (2 : Int) * (es.length : Int) = ((es.length * 2 : Nat) : Int) by omega]
  refine Zw (BI (k := es.length * 2) rfl rfl rfl Tryz.underlying44 AN DP B6 rfl (by omega) (by omega) (B4 _)) fun g24 => ?_
  refine Za ?_
  refine Zx <| DC.seq <| Zs ?_
  refine Za ?_
  refine Zx <| DC.block ?_
  refine DC.loop (ι := NxI) (fun j => j.v ≤ rs.length ∧ NxOk rs j.v j.f)
   (fun j => [(1, .slice B rs.length capb), (8, .slice (some ⟨g24, 0, none⟩) (es.length * 2) (es.length * 2)), (9, .int .i64 j.v)])
   (fun j => [blk g24 3 (ints (tab (es.length * 2) j.f)).toArray]) (fun j => rs.length - j.v) ⟨0, fun _ => 0⟩ ⟨Nat.zero_le _, fun _ _ _ _ h => absurd h (Nat.not_lt_zero _)⟩ ⟨rfl, rfl, rfl, trivial⟩ (.cons 0 rfl .nil) ?_
  rintro ⟨v, f⟩ ⟨hv, hd⟩
  dsimp only at hv hd ⊢
  refine DC.seq <| Zs ?_
  refine Zm ?_
  refine Zm ?_
  refine Zn Tryz.underlying59 ?_
  refine Zc ?_
  refine Zx ?_
  refine Zd (fun c6 => ?_) fun c6 => ?_
  ·have hvlt : v < rs.length := by simpa using c6
   obtain ⟨l, hl⟩ : ∃ l, rs[v]? = some l := ⟨_, List.getElem?_eq_getElem hvlt⟩
   obtain ⟨adb, lv, rfl, hc, Al, capl, rfl, hrl, hl1, hl2, hl3⟩ := hrb v l hl
   obtain ⟨hfr, hnd, _⟩ := hrow v l hl
   refine DC.skip <| Fin.then <| DC.seq <| DC.block <| Zs ?_
   refine Za ?_
   refine Zx <| DC.block ?_
   refine DC.loop (ι := NxI) (fun j => j.v ≤ l.length ∧ NxOk rs v j.f ∧ ∀ (i : Nat) h, i < j.v → l[i]? = some h → l[(i + 1) % l.length]? = some (j.f h.toNat))
    (fun j => [(1, .slice (some adb) rs.length capb), (8, .slice (some ⟨g24, 0, none⟩) (es.length * 2) (es.length * 2)), (9, .int .i64 v), (10, .int .i64 j.v)])
    (fun j => [blk g24 3 (ints (tab (es.length * 2) j.f)).toArray]) (fun j => l.length - j.v) ⟨0, f⟩ ⟨Nat.zero_le _, hd, fun _ _ h => absurd h (Nat.not_lt_zero _)⟩ ⟨rfl, rfl, rfl, rfl, trivial⟩ (.cons 0 rfl .nil) ?_
   rintro ⟨k, f2⟩ ⟨hk, hd2, hin⟩
   dsimp only at hk hd2 hin ⊢
   refine DC.seq <| Zs ?_
   refine Zm ?_
   refine Zm ?_
   refine Zm ?_
   refine Zo (Ai (ad' := adb.add v) rfl rfl rfl Tryz.underlying59 Bn (by omega) (by omega) (by rw [Int.toNat_natCast])) ?_
   refine Zu (Ah rfl rfl Bo (AE hc)) ?_
   refine Zn Tryz.underlying44 ?_
   refine Zc ?_
   refine Zx ?_
   refine Zd (fun c9 => ?_) fun c9 => ?_
   ·have hklt : k < l.length := by simpa using c9
    obtain ⟨h, hh⟩ : ∃ h, l[k]? = some h := ⟨_, List.getElem?_eq_getElem hklt⟩
    obtain ⟨hh0, hh1, hh2⟩ := hfr h (List.mem_of_getElem? hh)
    obtain ⟨adl, rfl, hch⟩ := hrl.int hh
    have hml : (k + 1) % l.length < l.length := Nat.mod_lt _ (by omega)
    obtain ⟨h', hh'⟩ : ∃ h', l[(k + 1) % l.length]? = some h' := ⟨_, List.getElem?_eq_getElem hml⟩
    obtain ⟨adl', e, hch'⟩ := hrl.int hh'
    cases e
    have emod : ((k : Int) + 1) % (l.length : Int) = (((k + 1) % l.length : Nat) : Int) := by rw [Int.natCast_emod, Int.natCast_add]; rfl
    refine DC.skip <| Fin.then <| DC.seq <| DC.block ?_
    refine AG (cl := [.q, .q, .q, .q, .v, .q, .q, .v, .q, .q, .q, .v, .q, .q, .q, .q, .q, .v, .q, .q, .q, .v, .q, .g]) (A := [0, 0, 0, 6, 14, 0, 62, 126, 0, 0, 768, 1792, 0, 4096, 0, 0, 49152, 114688, 245760, 520192, 1048320, 2096896, 4194303, 8388607]) (order := [0, 1, 2, 3, 4, 5, 6, 7, 8, 9, 10, 11, 12, 13, 14, 15, 16, 17, 18, 19, 20, 21, 22, 23]) [] mixed (by kernel_rfl) (fun w hw => hw.pick .nil) ?_
    refine Ym ?_
    refine Ym ?_
    refine Ym ?_
    refine Yo rfl (Ai (ad' := adb.add v) rfl rfl rfl Tryz.underlying59 Bn (by omega) (by omega) (by rw [Int.toNat_natCast])) ?_
    refine Am rfl rfl rfl rfl (Ah rfl rfl Bo (AE hc)) ?_
    refine Ym ?_
    refine Yo rfl (Ai (ad' := adl.add k) rfl rfl rfl Tryz.underlying44 AN (by omega) (by omega) (by rw [Int.toNat_natCast])) ?_
    refine Am rfl rfl rfl rfl (Ah rfl rfl AO (AE hch)) ?_
    refine Ym ?_
    refine Ym ?_
    refine Yo rfl (Ai (ad' := adb.add v) rfl rfl rfl Tryz.underlying59 Bn (by omega) (by omega) (by rw [Int.toNat_natCast])) ?_
    refine Am rfl rfl rfl rfl (Ah rfl rfl Bo (AE hc)) ?_
    refine Ym ?_
    refine Yo rfl (BN rfl rfl rfl (by omega)) ?_
    refine Ym ?_
    refine Ym ?_
    refine Yo rfl (Ai (ad' := adb.add v) rfl rfl rfl Tryz.underlying59 Bn (by omega) (by omega) (by rw [Int.toNat_natCast])) ?_
    refine Am rfl rfl rfl rfl (Ah rfl rfl Bo (AE hc)) ?_
    refine Yo rfl (BM rfl rfl Tryz.underlying44) ?_
    refine Yo rfl (K8 (j := (l.length : Int)) rfl rfl rfl (by omega) (by omega)) ?_
    rw [emod]
    refine Yo rfl (Ai (ad' := adl.add ((k + 1) % l.length)) rfl rfl rfl Tryz.underlying44 AN (by omega) (by omega) (by rw [Int.toNat_natCast])) ?_
    refine Am rfl rfl rfl rfl (Ah rfl rfl AO (AE hch')) ?_
    refine Yo rfl (Ai (ad' := ⟨g24, h.toNat, none⟩) rfl rfl rfl Tryz.underlying44 AN (by omega) (by omega) (by rw [AC])) ?_
    refine AL rfl rfl rfl rfl (AF (cs' := (ints (tab (es.length * 2) (upd f2 h.toNat h'))).toArray) rfl rfl rfl AN rfl (by simp; omega) BL) (fun w hw => hw.pick (.nil)) ?_
    refine Flow.end rfl ?_
    simp only [zq, zr]
    refine Fin.inBlock <| Fin.then <| DC.region ?_
    refine Zm ?_
    refine Zp ?_
    refine Za ?_
    refine Seq.nil ?_
    refine Fin.again (NxI.mk (k + 1) (upd f2 h.toNat h')) (by dsimp only; omega) ⟨by dsimp only; omega, ?_, ?_⟩ ⟨rfl, rfl, rfl, rfl, trivial⟩ (.cons 0 rfl .nil)
    ·intro x l' i h2 hx hl' hi2
     dsimp only
     unfold upd
     rw [if_neg ?_]
     ·exact hd2 x l' i h2 hx hl' hi2
     ·intro e
      obtain ⟨h4, h5, h6⟩ := (hrow x l' hl').1 h2 (List.mem_of_getElem? hi2)
      have : h2 = h := by omega
      subst this
      omega
    ·intro i h2 hi2 hl2
     dsimp only at hi2 ⊢
     unfold upd
     split
     ·rename_i e
      have h4 := (hfr h2 (List.mem_of_getElem? hl2)).1
      have : h2 = h := by omega
      subst this
      have : i = k := I9 hnd hl2 hh
      subst this; exact hh'
     ·rename_i e
      rcases Nat.lt_succ_iff_lt_or_eq.1 hi2 with hi2 | rfl
      ·exact hin i h2 hi2 hl2
      ·rw [hh] at hl2; cases hl2; exact absurd rfl e
   ·refine DC.exit <| Ad <| Ad <| Ag <| Fin.inBlock <| Fin.then <| DC.region ?_
    refine Zm ?_
    refine Zp ?_
    refine Za ?_
    refine Seq.nil ?_
    have hkl : k = l.length := by simp at c9; omega
    subst hkl
    refine Fin.again (NxI.mk (v + 1) f2) (by dsimp only; omega) ⟨by dsimp only; omega, ?_⟩ ⟨rfl, rfl, rfl, trivial⟩ (.cons 0 rfl .nil)
    intro x l' i h2 hx hl' hi2
    dsimp only at hx ⊢
    rcases Nat.lt_succ_iff_lt_or_eq.1 hx with hx | rfl
    ·exact hd2 x l' i h2 hx hl' hi2
    ·rw [hl] at hl'; cases hl'
     exact hin i h2 (List.getElem?_eq_some_iff.1 hi2).1 hi2
  ·refine DC.exit <| Ad <| Ad <| Ag <| Fin.then <| Zs ?_
   refine Zm ?_
   refine Za ?_
   refine Za ?_
   refine Zx <| DC.ret ?_
   refine Fin.weak (E' := [(4, _), (5, _)]) ⟨rfl, rfl, trivial⟩ (.cons 0 rfl .nil) ?_
   refine AJ (.inl rfl) rfl rfl rfl ?_
   have hvl : v = rs.length := by simp at c6; omega
   subst hvl
   exact ⟨g24, f, rfl, hd, rfl⟩
theorem G3 {N : Int} {es : List Pr} {rs : List (List Int)} {va v : Value} {w : World} (hg : PrV w va es) (hl : LsV w v rs) (hs : ∀ l, l ∈ rs → l.length ≤ 1000000000) (hok : RotL N es rs) :
  Calls Tryz.prog 116 #[.agg #[.int .i64 N, va], v] w (Ret w [] fun r M =>
   ∃ v f, r = .tuple #[v, .int .i64 0] ∧ NxOk rs rs.length f ∧ M = [slc v 3 1 (ints (tab (es.length * 2) fun h => f (twn h)))]) := by
 obtain ⟨A, cap, hva, _⟩ := id hg
 subst hva
 obtain ⟨B, capb, hvb, _⟩ := id hl
 subst hvb
 have hfew := hok.1.few
 refine At (K := []) (args := [_, _]) (L := []) Tryz.func116 rfl Tryz.ntmps116 rfl (Own.start _ _) ?_
 refine Zs ?_
 refine Zw (AS rfl rfl rfl) fun g2 => ?_
 refine Za ?_
 refine Za ?_
 refine Zx <| Zs ?_
 refine Zu (Ay (vs := [_, _]) rfl rfl Bj Bc rfl (Ak rfl)) ?_
 refine Zm ?_
 refine Seq.rel rfl rfl (Aq en150 rfl rfl rfl (fun w hw => G4 (hg.keep0 hw) (hl.keep0 hw) hs hok)) ?_
 rintro _ _ ⟨gn, f, rfl, hnx, rfl⟩
 refine Zm ?_
 refine Ze ?_
 refine Ze ?_
 refine Za ?_
 refine Za ?_
 refine Zx <| DC.seq ?_
 simp only [List.cons_append, List.nil_append]
 refine DC.region ?_
 refine Za ?_
 refine Zx <| DC.seq <| Zs ?_
 refine Za ?_
 refine Zx <| DC.block ?_
 refine DC.own (fun w hw => Bm (t := 3) (m := 1) hw) ?_
 refine DC.loop (ι := Nat × Value) (fun j => j.1 ≤ es.length * 2) (fun j => [(6, .slice (some ⟨gn, 0, none⟩) (es.length * 2) (es.length * 2)), (7, .int .i64 0), (8, j.2), (9, .int .i64 (j.1 : Nat))])
  (fun j => [slc j.2 3 1 (ints (tab j.1 fun h => f (twn h))), blk gn 3 (ints (tab (es.length * 2) f)).toArray]) (fun j => es.length * 2 - j.1) (0, .slice none 0 0) (Nat.zero_le _) ⟨rfl, rfl, rfl, rfl, trivial⟩ (.cons 0 rfl (.cons 0 rfl .nil)) ?_
 rintro ⟨h, vs⟩ hh
 dsimp only at hh ⊢
 refine DC.seq <| Zs ?_
 refine Zm ?_
 refine Zm ?_
 refine Zn Tryz.underlying44 ?_
 refine Zc ?_
 refine Zx ?_
 refine Zd (fun c4 => ?_) fun c4 => ?_
 ·have hlt : h < es.length * 2 := by simp at c4; omega
  have htw : twn h < es.length * 2 := by unfold twn; split <;> omega
  have etw : tw (h : Int) = ((twn h : Nat) : Int) := by unfold tw twn; split <;> split <;> omega
  refine DC.skip <| Fin.then <| DC.seq <| DC.block <| Zs ?_
  refine Zm ?_
  refine Seq.rel0 rfl rfl (Aq en151 rfl rfl rfl (fun w hw => HW (by omega) (by omega))) ?_
  rintro _ rfl
  rw [etw]
  refine Za ?_
  refine Zx <| DC.region ?_
  refine Zm ?_
  refine Zm ?_
  refine Zm ?_
  refine Zo (Ai (ad' := ⟨gn, twn h, none⟩) rfl rfl rfl Tryz.underlying44 AN (by omega) (by omega) (by rw [AC]; rfl)) ?_
  refine Zu (Ah rfl rfl AO (AU (Bk htw))) ?_
  refine Zw (AP (cs := #[_]) rfl rfl Tryz.underlying44 AN B6 rfl (by decide) (by decide) rfl rfl) fun g30 => ?_
  refine Seq.gen rfl rfl (AR (F := [blk g30 3 #[.int .i64 (f (twn h))], blk gn 3 (ints (tab (es.length * 2) f)).toArray]) (vs := ints (tab h fun h => f (twn h))) (k := 1) (news := [.int .i64 (f (twn h))]) rfl rfl rfl Tryz.underlying44 AN DP B6 rfl (by decide) (by decide)
   (fun w hw => hw.pick (.cons 1 rfl (.cons 0 rfl (.cons 0 rfl .nil)))) (.inl ⟨_, _, rfl, Ak rfl⟩) rfl (by intro u hu; simp at hu; subst hu; rfl) (by simp [tab]; omega)) ?_
  rintro v31 _ rfl
  refine Za ?_
  refine Seq.nil <| Fin.inBlock <| Fin.then <| DC.region ?_
  refine Zm ?_
  refine Zp ?_
  refine Za ?_
  refine Seq.nil ?_
  refine Fin.again (h + 1, v31) (by dsimp only; omega) (by dsimp only; omega) ⟨rfl, rfl, rfl, rfl, trivial⟩ (.cons' 0 rfl (by dsimp only; unfold tab; rw [List.range_succ, List.map_append, A4]; rfl) (.cons 1 rfl .nil))
 ·refine DC.exit <| Ad <| Ad <| Ag <| Fin.then <| Zs ?_
  refine Zm ?_
  refine Zm ?_
  refine Za ?_
  refine Za ?_
  refine Zx <| DC.ret ?_
  refine Fin.weak (E' := [(4, _), (5, _)]) ⟨rfl, rfl, trivial⟩ (.cons 0 rfl .nil) ?_
  refine AJ (.inl rfl) rfl rfl rfl ?_
  have hhe : h = es.length * 2 := by simp at c4; omega
  subst hhe
  exact ⟨vs, f, rfl, hnx, rfl⟩
open Classical in
theorem IZ {N : Int} {es : List Pr} {rs : List (List Int)} {va v : Value} {w : World} (hg : PrV w va es) (hl : LsV w v rs) (hs : ∀ l, l ∈ rs → l.length ≤ 1000000000) (hok : RotL N es rs) :
  Calls Tryz.prog 91 #[.agg #[.int .i64 N, va], v] w (Ret w [] fun r M =>
   ∃ v fs f, r = .tuple #[v, .int .i64 0] ∧ NxOk rs rs.length f ∧ FaD (es.length * 2) f ⟨es.length * 2, fun _ => true, fs, v⟩ ∧ M = slc v 44 1 (rowsV fs) :: rowsC 3 fs) := by
 obtain ⟨A, cap, hva, _⟩ := id hg
 subst hva
 obtain ⟨B, capb, hvb, _⟩ := id hl
 subst hvb
 have hfew := hok.1.few
 refine At (K := []) (args := [_, _]) (L := []) Tryz.func91 rfl Tryz.ntmps91 rfl (Own.start _ _) ?_
 refine Zs ?_
 refine Zw (AS rfl rfl rfl) fun g2 => ?_
 refine Za ?_
 refine Za ?_
 refine Zx <| Zs ?_
 refine Zu (Ay (vs := [_, _]) rfl rfl Bj Bc rfl (Ak rfl)) ?_
 refine Zm ?_
 refine Seq.rel rfl rfl (Aq en116 rfl rfl rfl (fun w hw => G3 (hg.keep0 hw) (hl.keep0 hw) hs hok)) ?_
 rintro _ _ ⟨sv, f, rfl, hnx, rfl⟩
 refine Zm ?_
 refine Ze ?_
 refine Ze ?_
 refine Za ?_
 refine Za ?_
 refine Zx <| DC.seq <| Zs ?_
 refine Zm ?_
 refine Zo (BS rfl rfl rfl) ?_
 refine Zx ?_
 refine Zd (fun c2 => ?_) fun c2 => ?_
 ·simp at c2
 ·refine DC.skip <| Fin.then <| DC.seq ?_
  simp only [List.cons_append, List.nil_append]
  obtain ⟨hP, hf0⟩ := Eh hok hnx
  obtain ⟨n, hn⟩ : ∃ n, n = es.length * 2 := ⟨_, rfl⟩
  rw [← hn] at hP hf0 ⊢
  have hn1 : n ≤ 8388608 := by omega
  have htl : ∀ q : Nat → Int, (tab n q).length = n := fun q => by simp [tab]
  refine HJ 0 rfl (by rw [htl]; omega) ?_
  rintro ⟨As, cs, rfl⟩
  rw [htl]
  refine DC.rdI 0 rfl ?_
  intro hAs
  refine DC.region ?_
  refine Zm ?_
  refine Zn Tryz.underlying44 ?_
  refine Zw (BI (k := n) rfl rfl rfl Tryz.underlying188 Fe by4 ze4 rfl (by omega) (by omega) (Dg _)) fun g24 => ?_
  refine Za ?_
  refine Zx <| Zs ?_
  refine Za ?_
  refine Zx <| DC.seq <| Zs ?_
  refine Za ?_
  refine Zx <| DC.block ?_
  refine DC.own (fun w hw => Bm (t := 44) (m := 1) hw) ?_
  refine DC.loop (ι := FaI) (fun j => FaD n f j)
   (fun j => [(6, .slice As n cs), (8, .slice (some ⟨g24, 0, none⟩) n n), (9, j.v), (10, .int .i64 j.h)])
   (fun j => slc j.v 44 1 (rowsV j.fs) :: blk g24 4 (bls n j.g).toArray :: slc (.slice As n cs) 3 1 (ints (tab n fun h => f (twn h))) :: rowsC 3 j.fs) (fun j => n - j.h) ⟨0, fun _ => false, [], .slice none 0 0⟩
   ⟨Nat.zero_le _, fun x _ => ⟨fun h => by simp at h, fun ⟨j, q, h, _⟩ => absurd h (Nat.not_lt_zero _)⟩, by simp, by simp⟩ ⟨rfl, rfl, rfl, rfl, trivial⟩ (.cons 0 rfl (.cons 0 rfl (.cons 0 rfl .nil))) ?_
  rintro ⟨h, g, fs, v9⟩ hD
  have hDle := hD.le
  have hDse := hD.seen
  dsimp only at hDle hDse ⊢
  refine DC.seq <| Zs ?_
  refine Zm ?_
  refine Zm ?_
  refine Zn Tryz.underlying44 ?_
  refine Zc ?_
  refine Zx ?_
  refine Zd (fun c7 => ?_) fun c7 => ?_
  ·have hlt : h < n := by simpa using c7
   obtain ⟨ad, rfl⟩ := hAs (by rw [htl]; omega)
   refine DC.skip <| Fin.then <| DC.seq <| DC.block <| DC.seq <| Zs ?_
   refine Zm ?_
   refine Zm ?_
   refine Zo (Ai (ad' := ⟨g24, h, none⟩) rfl rfl rfl Tryz.underlying188 Fe (by omega) (by omega) (by rw [AC]; rfl)) ?_
   refine Zu (Ah rfl rfl ag4 (AU (DI g hlt))) ?_
   refine Zx ?_
   refine Zd (fun c9 => ?_) fun c9 => ?_
   ·refine DC.exit <| Ad <| Ag <| Fin.then <| DC.region ?_
    refine Zm ?_
    refine Zp ?_
    refine Za ?_
    refine Seq.nil ?_
    have hs : SeenB (phi f) h h := (hDse h hlt).1 (by simpa using c9)
    have hnl : ¬ Lead (phi f) h := (Ed hP hlt).1 hs
    refine Fin.again ⟨h + 1, g, fs, v9⟩ (by dsimp only; omega) ⟨by dsimp only; omega, ?_, ?_, hD.short⟩ ⟨rfl, rfl, rfl, rfl, trivial⟩ (Pick.all _)
    ·intro x hx
     dsimp only
     rw [hDse x hx, Eo hs]
    ·dsimp only
     rw [List.range_succ, List.filter_append, List.map_append, hD.heads]
     simp [hnl]
   ·have hgh : ¬ g h = true := by simpa using c9
    have hns : ¬ SeenB (phi f) h h := fun h1 => hgh ((hDse h hlt).2 h1)
    refine DC.skip <| Fin.then <| Zs ?_
    refine Za ?_
    refine Zx <| Zs ?_
    refine Zm ?_
    refine Za ?_
    refine Zx <| DC.seq <| DC.block ?_
    refine DC.own (fun w hw => Bm (t := 3) (m := 1) hw) ?_
    refine DC.loop (ι := FaJ) (fun j => FaW n f h g j)
     (fun j => [(6, .slice (some ad) n cs), (8, .slice (some ⟨g24, 0, none⟩) n n), (9, v9), (10, .int .i64 h), (11, j.v), (12, .int .i64 (itr (phi f) j.t h : Nat))])
     (fun j => slc j.v 3 1 (ints (faceL f h j.t)) :: slc v9 44 1 (rowsV fs) :: blk g24 4 (bls n j.g).toArray :: slc (.slice (some ad) n cs) 3 1 (ints (tab n fun h => f (twn h))) :: rowsC 3 fs) (fun j => n - j.t) ⟨0, g, .slice none 0 0⟩
     ⟨by simp, fun x hx => by simp, fun h => absurd h (Nat.lt_irrefl _)⟩ ⟨rfl, rfl, rfl, rfl, rfl, rfl, trivial⟩ (Pick.all _) ?_
    rintro ⟨t, g', v11⟩ hW
    have hWse := hW.seen
    have hk := Ce hP hlt t
    dsimp only at hWse ⊢
    have htn : t ≤ n := by
     have := CC (b := List.range n) hW.nd (fun y hy => by obtain ⟨q, _, rfl⟩ := List.mem_map.1 hy; exact List.mem_range.2 (Ce hP hlt q))
     simpa using this
    obtain ⟨k, hkk⟩ : ∃ k, k = itr (phi f) t h := ⟨_, rfl⟩
    rw [← hkk] at hk ⊢
    have htw : twn k < n := by unfold twn; split <;> omega
    have hval : (ints (tab n fun h => f (twn h)))[k]? = some (.int .i64 ((phi f k : Nat) : Int)) := by
     rw [BW (Bp _ hk)]; congr 2; exact (Int.toNat_of_nonneg (hf0 _ htw)).symm
    refine DC.seq <| Zs ?_
    refine Zm ?_
    refine Zm ?_
    refine Zo (Ai (ad' := ⟨g24, k, none⟩) rfl rfl rfl Tryz.underlying188 Fe (by omega) (by omega) (by rw [AC]; rfl)) ?_
    refine Zu (Ah rfl rfl ag4 (AU (DI g' hk))) ?_
    refine Zo (Bh rfl rfl) ?_
    refine Zx ?_
    refine Zd (fun c12 => ?_) fun c12 => ?_
    ·have hgk : ¬ (g' k = true) := by simpa using c12
     have hkn : ¬ ∃ i, i < t ∧ itr (phi f) i h = k := fun h1 => hgk ((hWse k hk).2 (.inr h1))
     have hnd1 : ((List.range (t + 1)).map fun i => itr (phi f) i h).Nodup := by
      rw [List.range_succ, List.map_append, List.nodup_append]
      refine ⟨hW.nd, by simp, fun a ha b hb e => ?_⟩
      simp at hb; subst hb; subst e
      obtain ⟨q, hq, e⟩ := List.mem_map.1 ha
      exact hkn ⟨q, List.mem_range.1 hq, by rw [hkk]; exact e⟩
     have htn1 : t + 1 ≤ n := by
      have := CC (b := List.range n) hnd1 (fun y hy => by obtain ⟨q, _, rfl⟩ := List.mem_map.1 hy; exact List.mem_range.2 (Ce hP hlt q))
      simpa using this
     refine DC.skip <| Fin.then <| DC.block <| Zs ?_
     refine Zm ?_
     refine Zm ?_
     refine Zo (Ai (ad' := ⟨g24, k, none⟩) rfl rfl rfl Tryz.underlying188 Fe (by omega) (by omega) (by rw [AC]; rfl)) ?_
     refine Zy (AF (cs' := (bls n (updB g' k true)).toArray) rfl rfl rfl Fe rfl (by simp; omega) (DH g' true)) ?_
     refine Zx <| Zs ?_
     refine Zm ?_
     refine Zm ?_
     refine Zw (AP (cs := #[_]) rfl rfl Tryz.underlying44 AN B6 rfl (by decide) (by decide) rfl rfl) fun g46 => ?_
     refine Seq.gen rfl rfl (AR (F := blk g46 3 #[.int .i64 (k : Nat)] :: slc v9 44 1 (rowsV fs) :: blk g24 4 (bls n (updB g' k true)).toArray :: slc (.slice (some ad) n cs) 3 1 (ints (tab n fun h => f (twn h))) :: rowsC 3 fs) (vs := ints (faceL f h t)) (k := 1) (news := [.int .i64 (k : Nat)]) rfl rfl rfl Tryz.underlying44 AN DP B6 rfl (by decide) (by decide)
      (fun w hw => hw.pick (.cons 1 rfl (.cons 0 rfl (Pick.all _)))) (.inl ⟨_, _, rfl, Ak rfl⟩) rfl (Br [(k : Int)] []) (by simp [faceL]; omega)) ?_
     rintro v47 _ rfl
     refine Za ?_
     refine Zx <| DC.region ?_
     refine Zm ?_
     refine Zm ?_
     refine Zo (Ai (ad' := ad.add k) rfl rfl rfl Tryz.underlying44 AN (by omega) (by omega) (by rw [Int.toNat_natCast])) ?_
     refine Zu (Ah rfl rfl AO ((fun w hw => B8 (i := 4) rfl w hw k _ hval))) ?_
     refine Za ?_
     refine Seq.nil <| Fin.inBlock ?_
     refine Fin.own (fun w hw => hw.sub (.cons_cons _ (.cons _ (List.Sublist.refl _)))) ?_
     refine Fin.again ⟨t + 1, updB g' k true, v47⟩ (by dsimp only; omega) ⟨hnd1, ?_, ?_⟩ ⟨rfl, rfl, rfl, rfl, rfl, by rw [hkk]; rfl, trivial⟩ (.cons' 0 rfl (by dsimp only; unfold faceL; rw [List.range_succ, List.map_append, A4, hkk]; rfl) (Pick.all _))
     ·intro x hx
      dsimp only
      unfold updB
      split
      ·rename_i e; subst e
       simp only [true_iff]
       exact .inr ⟨t, by omega, hkk.symm⟩
      ·rename_i e
       rw [hWse x hx]
       constructor
       ·rintro (h1 | ⟨i, hi, h1⟩)
        ·exact .inl h1
        ·exact .inr ⟨i, by omega, h1⟩
       ·rintro (h1 | ⟨i, hi, h1⟩)
        ·exact .inl h1
        ·rcases Nat.lt_succ_iff_lt_or_eq.1 hi with hi | rfl
         ·exact .inr ⟨i, hi, h1⟩
         ·exact absurd (by rw [hkk, h1]) (Ne.symm e)
     ·intro _ hgh
      by_cases h0 : 0 < t
      ·exact hW.new h0 hgh
      ·have : k = h := by rw [hkk, show t = 0 by omega]; rfl
       exact hgk ((hWse k hk).2 (.inl (by rw [this]; exact hgh)))
    ·refine DC.exit <| Ad <| Ad <| Ag <| Fin.then ?_
     have hgk : g' k = true := by simpa using c12
     have hfl : (faceL f h t).length = t := by simp [faceL]
     refine HJ 0 rfl (by rw [hfl]; omega) ?_
     rintro ⟨A11, c11', rfl⟩
     rw [hfl]
     have ht0 : 0 < t := by
      rcases Nat.eq_zero_or_pos t with h0 | h0
      ·subst h0
       exfalso
       have hkh : k = h := hkk
       subst hkh
       exact hgh (by have := (hWse k hk).1 hgk; simpa using this)
      ·exact h0
     have hlead : Lead (phi f) h := by
      apply Classical.byContradiction
      intro h1; exact hns ((Ed hP hlt).2 h1)
     have hall := He hP hlt ht0 hns (by
      rw [← hkk]
      rcases (hWse k hk).1 hgk with h1 | h1
      ·exact .inl ((hDse k hk).1 h1)
      ·exact .inr h1)
     have hfslen : fs.length ≤ h := by
      have h1 := congrArg List.length hD.heads
      simp only [List.length_map] at h1
      have h2 := List.length_filter_le (fun x => decide (Lead (phi f) x)) (List.range h)
      simp at h2; omega
     refine DC.region ?_
     refine Zm ?_
     refine Zm ?_
     refine Zw (AP (cs := #[_]) rfl rfl Tryz.underlying25 Bn CH rfl (by decide) (by decide) rfl rfl) fun g54 => ?_
     refine Seq.gen rfl rfl (AR (F := blk g54 44 #[.slice A11 t c11'] :: slc (.slice A11 t c11') 3 1 (ints (faceL f h t)) :: blk g24 4 (bls n g').toArray :: slc (.slice (some ad) n cs) 3 1 (ints (tab n fun h => f (twn h))) :: rowsC 3 fs) (vs := rowsV fs) (k := 1) (news := [.slice A11 t c11']) rfl rfl rfl Tryz.underlying25 Bn GT CH rfl (by decide) (by decide)
      (fun w hw => hw.pick (.cons 2 rfl (.cons 0 rfl (.cons 0 rfl (Pick.all _))))) (.inl ⟨_, _, rfl, Ak rfl⟩) rfl (fun u hu => by rw [List.mem_singleton.1 hu]; rfl) (by simp; omega)) ?_
     rintro v54 _ rfl
     refine Za ?_
     refine Seq.nil <| Fin.inBlock <| Fin.then <| DC.region ?_
     refine Zm ?_
     refine Zp ?_
     refine Za ?_
     refine Seq.nil ?_
     refine Fin.own (M := slc v54 44 1 (rowsV (fs ++ [(.slice A11 t c11', faceL f h t)])) :: blk g24 4 (bls n g').toArray :: slc (.slice (some ad) n cs) 3 1 (ints (tab n fun h => f (twn h))) :: rowsC 3 (fs ++ [(.slice A11 t c11', faceL f h t)])) (fun w hw => ?_) ?_
     ·have e1 : rowsV (fs ++ [(.slice A11 t c11', faceL f h t)]) = rowsV fs ++ [.slice A11 t c11'] := by simp [rowsV]
      have e2 : rowsC 3 (fs ++ [(.slice A11 t c11', faceL f h t)]) = rowsC 3 fs ++ [slc (.slice A11 t c11') 3 1 (ints (faceL f h t))] := by simp [rowsC]
      rw [e1, e2]
      have h1 := hw.sub (.cons_cons _ (.cons _ (List.Sublist.refl _)))
      refine h1.perm ?_
      refine List.Perm.cons _ ?_
      have := List.perm_append_comm (l₁ := blk g24 4 (bls n g').toArray :: slc (.slice (some ad) n cs) 3 1 (ints (tab n fun h => f (twn h))) :: rowsC 3 fs) (l₂ := [slc (.slice A11 t c11') 3 1 (ints (faceL f h t))])
      simpa using this
     refine Fin.again ⟨h + 1, g', fs ++ [(.slice A11 t c11', faceL f h t)], v54⟩ (by dsimp only; omega) ⟨by dsimp only; omega, ?_, ?_, ?_⟩ ⟨rfl, rfl, rfl, rfl, trivial⟩ (Pick.all _)
     ·intro x hx
      dsimp only
      rw [hWse x hx, hDse x hx, Ep hall]
     ·dsimp only
      rw [List.range_succ, List.filter_append, List.map_append, List.map_append, hD.heads]
      congr 1
      have : (faceL f h t).head? = some (h : Int) := by
       obtain ⟨t', rfl⟩ : ∃ t', t = t' + 1 := ⟨t - 1, by omega⟩
       simp [faceL, List.range_succ_eq_map, itr]
      simp [hlead, this]
     ·intro p hp
      rw [List.mem_append] at hp
      rcases hp with hp | hp
      ·exact hD.short p hp
      ·simp at hp; subst hp; dsimp only; omega
  ·refine DC.exit <| Ad <| Ad <| Ag <| Fin.then <| Zs ?_
   refine Zm ?_
   refine Za ?_
   refine Za ?_
   refine Zx <| DC.ret ?_
   have hhn : h = n := by simp at c7; omega
   subst hhn
   refine Fin.own (M := slc v9 44 1 (rowsV fs) :: rowsC 3 fs) (fun w hw => hw.sub (.cons_cons _ (.cons _ (.cons _ (List.Sublist.refl _))))) ?_
   refine Fin.weak (E' := [(4, _), (5, _)]) ⟨rfl, rfl, trivial⟩ (Pick.all _) ?_
   refine AJ (.inl rfl) rfl rfl rfl ?_
   exact ⟨v9, fs, f, rfl, hnx, ⟨Nat.le_refl _, fun x hx => ⟨fun _ => ⟨x, 0, hx, rfl⟩, fun _ => rfl⟩, hD.heads, hD.short⟩, rfl⟩
end Go.Fl
