/- The last part: The law CheckOwn, where what it reads is of bulk at most 1048576: true, and the input reads as it did; the three tables of the library that it lists are tied to the text of the program. -/
import Derived.Test.YthjmapekjggdjaaGreatDoorZO5
set_option linter.unusedVariables false
set_option linter.unusedSimpArgs false
set_option linter.unusedSectionVars false
set_option maxRecDepth 100000
namespace Go.Fl
open Go Go.Proofs
theorem G5 {es : List Pr} {ls rs : List (List Int)} {k : Nat} (hR : RotR es ls rs) (hs : ∀ l, l ∈ ls → l.length ≤ k) : ∀ r, r ∈ rs → r.length ≤ k := by
 intro r hr
 obtain ⟨i, hi⟩ := List.mem_iff_getElem?.1 hr
 obtain ⟨l, hl⟩ : ∃ l, ls[i]? = some l := ⟨_, List.getElem?_eq_getElem (by have := (List.getElem?_eq_some_iff.1 hi).1; have := hR.1; omega)⟩
 have h3 := (hR.2 i l _ hl hi).1
 have h4 := hs l (List.mem_of_getElem? hl)
 omega
theorem r11Of_pk {N : Int} {es : List Pr} {ls : List (List Int)} {va v : Value} {w : World} (hg : PrV w va es) (hl : LsV w v ls) (hn : ls.length ≤ 1000000000) (hs : ∀ l, l ∈ ls → l.length ≤ 1000000000) :
  Calls Tryz.prog 32 #[.agg #[.int .i64 N, va], v] w (Ret w [] fun r M => ∃ A k c x e ck rs, r = .tuple #[.slice A k c, .int .i64 x, .int .i64 e] ∧ (e = 0 ↔ RotOk N es ls) ∧ M = [ck] ∧ (RotOk N es ls → LstC ck (.slice A k c) rs ∧ RotR es ls rs)) := by
 refine Calls.mono (Kj hg hl hs) ?_
 rintro e w' ⟨r, L', rfl, ⟨hok, v, rs, rfl, rfl, hR⟩ | ⟨hno, x, e, rfl, he⟩, hO⟩
 ·obtain ⟨A, len, cap, rfl, hl, _⟩ := BV hO
  refine ⟨_, [pk (slc (.slice A len cap) 44 1 (rowsV rs) :: rowsC 3 rs)], rfl, ⟨A, len, cap, 0, 0, _, rs.map Prod.snd, rfl, by simp [hok], rfl, fun _ => ⟨?_, hR⟩⟩, LM (by simpa using hO)⟩
  intro w0 K w L i hw hi
  have h2 := (Hl i hi hw).sub (List.sublist_append_left _ _)
  have hlen := hR.1
  rw [List.length_map] at hlen
  refine lsv_slc (F := []) (by simpa using h2) (by omega) (fun p hp => ?_)
  have := G5 hR hs _ (List.mem_map_of_mem (f := Prod.snd) hp)
  omega
 ·exact ⟨_, [pk []], rfl, ⟨none, 0, 0, x, e, _, [], rfl, by simp [hno, he], rfl, fun h => absurd h hno⟩, LM (by simpa using hO.sub (List.nil_sublist _))⟩
structure G18I where
 i : Nat
theorem Ep {N : Int} {pl : Bool} {es cs : List Pr} {ls : List (List Int)} {va v u : Value} {w : World} (hg : PrV w va es) (hv : LsV w v ls) (hu : PrV w u cs) (hn : ls.length ≤ 1000000000) (hs : ∀ l, l ∈ ls → l.length ≤ 2097152) :
  Calls Tryz.prog 13 #[.agg #[.int .i64 N, va], .agg #[.bool pl, v, u]] w (Ret w [] fun r M => M = [] ∧ r = .int .i64 (chkF N es pl ls cs)) := by
 have hs9 : ∀ l, l ∈ ls → l.length ≤ 1000000000 := fun l hl => by have := hs l hl; omega
 have hg0 := hg
 have hv0 := hv
 have hu0 := hu
 obtain ⟨A, cap, rfl, hr, hlc, hcm, hle⟩ := hg
 obtain ⟨Av, capv, rfl, _⟩ := hv
 obtain ⟨Au, capu, rfl, hru, hlu, hcu, hleu⟩ := hu
 refine At (K := []) (args := [_, _]) (L := []) Tryz.func13 rfl Tryz.ntmps13 rfl (Own.start _ _) ?_
 refine Zs ?_
 refine Zw (AR rfl rfl rfl) fun g2 => ?_
 refine Zw (AR rfl rfl rfl) fun g3 => ?_
 refine Za ?_
 refine Zx <| Zs ?_
 refine Zu (Aw (vs := [_, _]) rfl rfl Bo Bh rfl (Am rfl)) ?_
 refine Seq.rel0 rfl rfl (Ao Ma rfl rfl rfl (fun w hw => BW (hg0.keep0 hw))) ?_
 rintro _ ⟨b1, rfl, hb1⟩
 refine Za ?_
 refine Zx <| DC.seq <| Zs ?_
 refine Zm ?_
 refine Zo (Bg rfl rfl) ?_
 refine Zx ?_
 refine Zd (fun c2 => ?_) fun c2 => ?_
 ·have hx : chkF N es pl ls cs = 1 := by
   unfold chkF
   rw [if_pos (fun h => by rw [hb1.2 h] at c2; simp at c2)]
  refine Zs ?_
  refine Za ?_
  refine Zx <| DC.ret <| Aa ?_
  refine Fin.weak (E' := [(4, _)]) (L' := []) ⟨rfl, trivial⟩ .nil ?_
  refine Ak (.inl rfl) rfl rfl ?_
  exact ⟨rfl, by rw [hx]⟩
 ·have hV : Vld N es := hb1.1 (by simpa using c2)
  obtain ⟨n, rfl⟩ : ∃ n : Nat, N = n := ⟨N.toNat, by have := hV.lo; omega⟩
  refine DC.skip <| Fin.then <| Zs ?_
  refine Zu (Aw (vs := [_, _, _]) rfl rfl FO EX rfl (Am rfl)) ?_
  refine Seq.rel0 rfl rfl (Ao en31 rfl rfl rfl (fun w hw => G8 (hv0.keep0 hw) (hu0.keep0 hw) hs)) ?_
  rintro _ ⟨s4, e4, rfl, he4⟩
  refine Zm ?_
  refine Ze ?_
  refine Ze ?_
  refine Za ?_
  refine Za ?_
  refine Zx <| DC.seq <| Zs ?_
  refine Zm ?_
  refine Zo (BB rfl rfl rfl) ?_
  refine Zx ?_
  refine Zd (fun c5 => ?_) fun c5 => ?_
  ·have hx : chkF n es pl ls cs = 181 := by
    unfold chkF
    rw [if_neg (not_not_intro hV), if_pos (fun h => by rw [he4.2 h] at c5; simp at c5)]
   refine Zs ?_
   refine Za ?_
   refine Zx <| DC.ret <| Aa ?_
   refine Fin.weak (E' := [(4, _)]) (L' := []) ⟨rfl, trivial⟩ .nil ?_
   refine Ak (.inl rfl) rfl rfl ?_
   exact ⟨rfl, by rw [hx]⟩
  ·have hT : TextOk pl ls cs := he4.1 (by simpa using c5)
   refine DC.skip <| Fin.then <| DC.seq <| Zs ?_
   refine Zf C2 ?_
   refine Zl Id ?_
   refine Zx ?_
   refine Zd (fun c7 => ?_) fun c7 => ?_
   ·have hpl : pl = true := by simpa using c7
    refine Zs ?_
    refine Zu (Aw (vs := [_, _]) rfl rfl Bo Bh rfl (Am rfl)) ?_
    refine Zf Co ?_
    refine Zl Dl ?_
    refine Seq.rel rfl rfl (Ao en32 rfl rfl rfl (fun w hw => r11Of_pk (hg0.keep0 hw) (hv0.keep0 hw) hn hs9)) ?_
    rintro _ _ ⟨A8, k8, c8, x8, e8, ck, rs, rfl, he8, rfl, hck⟩
    refine Zm ?_
    refine Ze ?_
    refine Ze ?_
    refine Ze ?_
    refine Za ?_
    refine Za ?_
    refine Za ?_
    refine Zx <| DC.seq <| DC.seq ?_
    simp only [List.cons_append, List.nil_append]
    refine DC.region ?_
    refine Zm ?_
    refine Zo (BB rfl rfl rfl) ?_
    refine Zx ?_
    refine Zd (fun c9 => ?_) fun c9 => ?_
    ·have hx : chkF n es pl ls cs = 182 := by
      unfold chkF
      rw [if_neg (not_not_intro hV), if_neg (not_not_intro hT), if_pos hpl, if_pos (fun h => by rw [he8.2 h] at c9; simp at c9)]
     refine Zs ?_
     refine Za ?_
     refine Zx <| DC.ret <| Aa <| Aa ?_
     refine Fin.weak (E' := [(4, _)]) (L' := []) ⟨rfl, trivial⟩ .nil ?_
     refine Ak (.inl rfl) rfl rfl ?_
     exact ⟨rfl, by rw [hx]⟩
    ·have hok : RotOk n es ls := he8.1 (by simpa using c9)
     obtain ⟨hck, hR⟩ := hck hok
     refine DC.skip <| Fin.then <| Zs ?_
     refine Zu (Aw (vs := [_, _]) rfl rfl Bo Bh rfl (Am rfl)) ?_
     refine Zm ?_
     refine Seq.rel0 rfl rfl (Ao en26 rfl rfl rfl (fun w hw => FM (D := fun r => ∃ b f, r = .bool b ∧ NxOk rs rs.length f ∧ (b = true ↔ genus2 n es f = 0)) (H3 (hg0.keep0 hw) (hck _ _ _ _ 0 hw rfl) (G5 hR hs9) (GB hok hR)))) ?_
     rintro _ ⟨b11, f11, rfl, hnx, hb11⟩
     refine Za ?_
     refine Zx <| DC.seq <| DC.seq ?_
     have hfl : b11 = true ↔ FlatP n es ls := IK hok ⟨rs, f11, hR, hnx, hb11⟩
     refine DC.region ?_
     refine Zm ?_
     refine Zo (Bg rfl rfl) ?_
     refine Zx ?_
     refine Zd (fun c12 => ?_) fun c12 => ?_
     ·have hx : chkF n es pl ls cs = 183 := by
       unfold chkF
       rw [if_neg (not_not_intro hV), if_neg (not_not_intro hT), if_pos hpl, if_neg (not_not_intro hok), if_pos (fun h => by rw [Int.toNat_natCast] at h; rw [hfl.2 h] at c12; simp at c12)]
      refine Zs ?_
      refine Za ?_
      refine Zx <| DC.ret <| Aa <| Aa ?_
      refine Fin.weak (E' := [(4, _)]) (L' := []) ⟨rfl, trivial⟩ .nil ?_
      refine Ak (.inl rfl) rfl rfl ?_
      exact ⟨rfl, by rw [hx]⟩
     ·have hx : chkF n es pl ls cs = 0 := by
       unfold chkF
       rw [if_neg (not_not_intro hV), if_neg (not_not_intro hT), if_pos hpl, if_neg (not_not_intro hok), if_neg (not_not_intro (by rw [Int.toNat_natCast]; exact hfl.1 (by simpa using c12)))]
      refine DC.skip <| Fin.then <| Zs ?_
      refine Za ?_
      refine Zx <| DC.ret <| Aa ?_
      refine Fin.weak (E' := [(4, _)]) (L' := []) ⟨rfl, trivial⟩ .nil ?_
      refine Ak (.inl rfl) rfl rfl ?_
      exact ⟨rfl, by rw [hx]⟩
   ·have hpl : pl = false := by simpa using c7
    refine DC.skip <| Fin.then <| DC.seq <| Zs ?_
    refine Za ?_
    refine Zx <| DC.block ?_
    have hE : EdgesOk cs := by
     have := hT.1
     rw [hpl] at this
     exact this.2
    refine DC.loop (ι := G18I) (fun q => q.i ≤ cs.length ∧ ∀ c, c ∈ cs.take q.i → c ∈ es) (fun q => [(2, .pointer (some ⟨g2, 0, none⟩)), (3, .pointer (some ⟨g3, 0, none⟩)), (12, .int .i64 (q.i : Nat))])
     (fun _ => [blk g3 27 #[.bool pl, .slice Av ls.length capv, .slice Au cs.length capu], blk g2 24 #[.int .i64 n, .slice A es.length cap]]) (fun q => cs.length - q.i) ⟨0⟩ ⟨Nat.zero_le _, by simp⟩ ⟨rfl, rfl, rfl, trivial⟩ (.cons 0 rfl (.cons 0 rfl .nil)) ?_
    rintro ⟨i⟩ ⟨hi, hin⟩
    dsimp only at hi hin ⊢
    refine DC.seq <| Zs ?_
    refine Zm ?_
    refine Zf BR ?_
    refine Zl Bj ?_
    refine Zn Tryz.underlying22 ?_
    refine Zc ?_
    refine Zx ?_
    refine Zd (fun c16 => ?_) fun c16 => ?_
    ·have hic : i < cs.length := by simpa using c16
     obtain ⟨x, hx⟩ : ∃ x, cs[i]? = some x := ⟨_, List.getElem?_eq_getElem hic⟩
     obtain ⟨ad, rfl, cx, cy⟩ := hru.pair hx
     refine DC.skip <| Fin.then <| DC.seq <| DC.block <| DC.seq ?_
     refine AD (cl := [.v, .q, .v, .q, .q, .v, .r, .q]) (A := [0, 0, 2, 0, 14, 30, 63, 127]) (order := [0, 1, 2, 3, 4, 5, 6, 7]) [] mixed (by kernel_rfl) (fun w hw => hw.pick .nil) ?_
     refine Aj rfl rfl rfl rfl (Aw (vs := [_, _]) rfl rfl Bo Bh rfl (Am rfl)) ?_
     refine Yf BR ?_
     refine Yl Bj ?_
     refine Ym ?_
     refine Yo rfl (AE (ad' := ad.add (i * 2)) rfl rfl rfl Tryz.underlying22 AW (by omega) (by omega) rfl) ?_
     refine Aj rfl rfl rfl rfl (Aw (vs := [_, _]) rfl rfl Cr AW rfl (Ck cx cy (by simp))) ?_
     refine Flow.rel0 rfl rfl rfl rfl (Ao en33 rfl rfl rfl (fun w hw => Jb (hg0.keep0 hw) hV)) ?_
     rintro _ ⟨k18, rfl, hk18⟩
     refine Yo rfl (AY rfl rfl) ?_
     refine Flow.end rfl ?_
     simp only [zq, zr]
     refine Fin.then <| Zs ?_
     refine Zm ?_
     refine Zc ?_
     refine Zx ?_
     refine Zd (fun c19 => ?_) fun c19 => ?_
     ·have hx : chkF n es pl ls cs = 184 := by
       unfold chkF
       rw [if_neg (not_not_intro hV), if_neg (not_not_intro hT), if_neg (by rw [hpl]; decide), if_pos (fun h => by have := hk18.2 (h x (List.mem_of_getElem? hx)); simp at c19; omega)]
      refine Zs ?_
      refine Za ?_
      refine Zx <| DC.ret <| Ae <| Aa <| Aa <| Ae <| Aa ?_
      refine Fin.weak (E' := [(4, _)]) (L' := []) ⟨rfl, trivial⟩ .nil ?_
      refine Ak (.inl rfl) rfl rfl ?_
      exact ⟨rfl, by rw [hx]⟩
     ·have hxin : x ∈ es := hk18.1 (by simp at c19; omega)
      refine DC.skip <| Fin.inBlock <| Fin.then <| DC.region ?_
      refine Zm ?_
      refine Zp ?_
      refine Za ?_
      refine Seq.nil ?_
      refine Fin.again ⟨i + 1⟩ (by dsimp only; omega) ⟨by dsimp only; omega, ?_⟩ ⟨rfl, rfl, rfl, trivial⟩ (.cons 0 rfl (.cons 0 rfl .nil))
      dsimp only
      intro c hc
      rw [List.take_add_one, hx, List.mem_append] at hc
      rcases hc with hc | hc
      ·exact hin c hc
      ·simp at hc; subst hc; exact hxin
    ·refine DC.exit <| Ad <| Ad <| Ag <| Fin.then <| DC.seq ?_
     have hic : i = cs.length := by simp at c16; omega
     subst hic
     rw [List.take_length] at hin
     have hVc : Vld n cs := IY hV hE hin
     refine DC.region ?_
     refine Zf Bz ?_
     refine Zl AI ?_
     refine Zf BR ?_
     refine Zl Bj ?_
     refine Zo (AB (cs := #[_, _]) rfl rfl JN rfl rfl) ?_
     refine Seq.rel0 rfl rfl (Ao en34 rfl rfl rfl (fun w hw => E2 (hu0.keep0 hw) hVc)) ?_
     rintro _ ⟨kd, A9, l9, c9, A9', l9', c9', b9, rfl, hb9⟩
     refine Zm ?_
     refine Ze ?_
     refine Ze ?_
     refine Ze ?_
     refine Zw (AO rfl IW rfl) fun g14 => ?_
     refine Zy (Az (cs' := #[_, _, _]) rfl rfl rfl Ce rfl (Nat.le_of_ble_eq_true rfl) rfl) ?_
     refine Za ?_
     refine Za ?_
     refine Zx <| DC.seq <| Zs ?_
     refine Zm ?_
     refine Zo (Bg rfl rfl) ?_
     refine Zx ?_
     refine Zd (fun c22 => ?_) fun c22 => ?_
     ·have hx : chkF n es pl ls cs = 185 := by
       unfold chkF
       rw [if_neg (not_not_intro hV), if_neg (not_not_intro hT), if_neg (by rw [hpl]; decide), if_neg (not_not_intro hin), if_pos (fun h => by rw [Int.toNat_natCast] at h; rw [hb9.2 h] at c22; simp at c22)]
      refine Zs ?_
      refine Za ?_
      refine Zx <| DC.ret <| Aa ?_
      refine Fin.weak (E' := [(4, _)]) (L' := []) ⟨rfl, trivial⟩ .nil ?_
      refine Ak (.inl rfl) rfl rfl ?_
      exact ⟨rfl, by rw [hx]⟩
     ·have hx : chkF n es pl ls cs = 0 := by
       unfold chkF
       rw [if_neg (not_not_intro hV), if_neg (not_not_intro hT), if_neg (by rw [hpl]; decide), if_neg (not_not_intro hin), if_neg (not_not_intro (by rw [Int.toNat_natCast]; exact hb9.1 (by simpa using c22)))]
      refine DC.skip <| Fin.then <| Zs ?_
      refine Za ?_
      refine Zx <| DC.ret ?_
      refine Fin.weak (E' := [(4, _)]) (L' := []) ⟨rfl, trivial⟩ .nil ?_
      refine Ak (.inl rfl) rfl rfl ?_
      exact ⟨rfl, by rw [hx]⟩
structure OwJ where
 i : Nat
 v7 : Value
 v8 : Value
 rs : RL
structure OwR where
 i : Nat
 rs : RL
structure OwC where
 A : Option Addr
 l : Nat
 c : Nat
 cs : List Pr
theorem LOwn_calls {N : Int} {es cs : List Pr} {pl : Bool} {ls : List (List Int)} {va v u : Value} {w : World} (hg : PrV w va es) (hv : LsV w v ls) (hu : PrV w u cs) (hp : Pow w) (hn : ls.length ≤ 1000000000) (hs : ∀ l, l ∈ ls → l.length ≤ 2097152) :
  Calls Tryz.prog 5 #[.agg #[.int .i64 N, va], .agg #[.bool pl, v, u]] w (Ret w [] fun r M => r = .bool true) := by
 have hs9 : ∀ l, l ∈ ls → l.length ≤ 1000000000 := fun l hl => by have := hs l hl; omega
 have hel : es.length ≤ 8796093021952 := by obtain ⟨_, _, _, _, _, _, h⟩ := hg; exact h
 have hcl : cs.length ≤ 8796093021952 := by obtain ⟨_, _, _, _, _, _, h⟩ := hu; exact h
 have hg0 := hg
 have hv0 := hv
 have hu0 := hu
 obtain ⟨A, cap, rfl, _⟩ := hg0
 obtain ⟨Al, cl, rfl, hrl, _⟩ := hv0
 obtain ⟨Ac, cc, rfl, _⟩ := hu0
 refine At (K := []) (args := [_, _]) (L := []) Tryz.func5 rfl Tryz.ntmps5 rfl (Own.start _ _) ?_
 refine Zs ?_
 refine Zw (AR rfl rfl rfl) fun g2 => ?_
 refine Zw (AR rfl rfl rfl) fun g3 => ?_
 refine Za ?_
 refine Zx <| DC.seq <| Zs ?_
 refine Seq.rel0 rfl rfl (Ao en9 rfl rfl rfl (fun w hw => J0 (hp.keep0 hw))) ?_
 rintro _ rfl
 refine Zo (Bg rfl rfl) ?_
 refine Zx ?_
 refine Zd (fun c1 => ?_) fun c1 => ?_
 ·simp at c1
 ·refine DC.skip <| Fin.then <| Zs ?_
  refine Zu (Aw (vs := [_, _]) rfl rfl Bo Bh rfl (Am rfl)) ?_
  refine Seq.rel rfl rfl (Ao en11 rfl rfl rfl (fun w hw => LF (hg.keep0 hw))) ?_
  rintro _ _ ⟨A20, c20, rfl, rfl⟩
  simp only [List.cons_append, List.nil_append]
  refine Zo (p_fieldv rfl rfl AS Bj rfl) ?_
  refine Zo (AB (cs := #[_, _]) rfl rfl Gg rfl rfl) ?_
  refine Zw (AP (cs := #[_, _]) rfl rfl Tryz.underlying22 AW CK rfl (by decide) (by decide) rfl rfl) fun g23 => ?_
  refine Seq.gen rfl rfl (CP (AG (F := blk g23 43 #[.int .i64 (-1), .int .i64 (-2)] :: blk g3 27 _ :: blk g2 24 _ :: []) (vs := prs es) (k := 1) (news := [.int .i64 (-1), .int .i64 (-2)]) rfl rfl rfl Tryz.underlying22 AW by43 CK rfl (by decide) (by decide)
   (fun w hw => hw.pick (.cons 1 rfl (.cons 0 rfl (.cons 0 rfl (.cons 0 rfl .nil))))) (.inl ⟨_, _, rfl, Am rfl⟩) rfl (by intro u hu; simp at hu; rcases hu with rfl | rfl <;> rfl) (by rw [prs_length]; omega))) ?_
  rintro _ _ ⟨⟨A5, l5, c5, rfl, hl5⟩, rfl⟩
  obtain rfl : l5 = es.length + 1 := by simp at hl5; omega
  refine Za ?_
  refine Seq.nil ?_
  refine Fin.weak (E' := [(2, .pointer (some ⟨g2, 0, none⟩)), (3, .pointer (some ⟨g3, 0, none⟩)), (5, .slice A5 (es.length + 1) c5)]) ⟨rfl, rfl, rfl, trivial⟩ (L' := slc (.slice A5 (es.length + 1) c5) 43 2 (prs (es ++ [(-1, -2)])) :: blk g3 27 #[.bool pl, .slice Al ls.length cl, .slice Ac cs.length cc] :: blk g2 24 #[.int .i64 N, .slice A es.length cap] :: []) (.cons' 0 rfl (by rw [Ch]; rfl) (.cons 1 rfl (.cons 1 rfl .nil))) ?_
  refine Fin.then <| Zs ?_
  refine Zw (AP (cs := #[]) rfl rfl Tryz.underlying22 AW CK rfl (by decide) (by decide) rfl rfl) fun g25 => ?_
  refine Zf BR ?_
  refine Zl Bj ?_
  refine Seq.rel rfl rfl (Ip rfl rfl rfl Tryz.underlying22 AW by43 CK rfl (by decide) (by decide) (PrV.src2 (w := w) hu) (by simp) (by omega)) ?_
  rintro _ _ ⟨⟨A28, l28, c28, rfl⟩, rfl⟩
  simp only [List.cons_append, List.nil_append]
  refine Seq.own (fun w hw => own_ap0 (by decide) hw) ?_
  refine Zo (AB (cs := #[_, _]) rfl rfl Gg rfl rfl) ?_
  refine Zw (AP (cs := #[_, _]) rfl rfl Tryz.underlying22 AW CK rfl (by decide) (by decide) rfl rfl) fun g30 => ?_
  refine Seq.gen rfl rfl (CP (AG (F := blk g30 43 #[.int .i64 (-3), .int .i64 (-4)] :: slc (.slice A5 (es.length + 1) c5) 43 2 (prs (es ++ [(-1, -2)])) :: blk g3 27 _ :: blk g2 24 _ :: []) (vs := prs cs) (k := 1) (news := [.int .i64 (-3), .int .i64 (-4)]) rfl rfl rfl Tryz.underlying22 AW by43 CK rfl (by decide) (by decide)
   (fun w hw => hw.pick (.cons 1 rfl (.cons 0 rfl (.cons 0 rfl (.cons 0 rfl (.cons 0 rfl .nil)))))) (.inl ⟨_, _, rfl, Am rfl⟩) rfl (by intro u hu; simp at hu; rcases hu with rfl | rfl <;> rfl) (by rw [prs_length]; omega))) ?_
  rintro _ _ ⟨⟨A6, l6, c6, rfl, hl6⟩, rfl⟩
  obtain rfl : l6 = cs.length + 1 := by simp at hl6; omega
  refine Za ?_
  refine Seq.nil ?_
  refine Fin.weak (E' := [(2, .pointer (some ⟨g2, 0, none⟩)), (3, .pointer (some ⟨g3, 0, none⟩)), (5, .slice A5 (es.length + 1) c5), (6, .slice A6 (cs.length + 1) c6)]) ⟨rfl, rfl, rfl, rfl, trivial⟩ (L' := slc (.slice A6 (cs.length + 1) c6) 43 2 (prs (cs ++ [(-3, -4)])) :: slc (.slice A5 (es.length + 1) c5) 43 2 (prs (es ++ [(-1, -2)])) :: blk g3 27 #[.bool pl, .slice Al ls.length cl, .slice Ac cs.length cc] :: blk g2 24 #[.int .i64 N, .slice A es.length cap] :: []) (.cons' 0 rfl (by rw [Ch]; rfl) (.cons 1 rfl (.cons 1 rfl (.cons 1 rfl .nil)))) ?_
  refine Fin.then <| Zs ?_
  refine Za ?_
  refine Za ?_
  refine Zx <| DC.seq <| Zs ?_
  refine Za ?_
  refine Zx <| DC.block ?_
  refine DC.own (fun w hw => Bd (t := 44) (m := 1) (Bd (t := 44) (m := 1) hw)) ?_
  refine DC.loop (ι := OwJ) (fun q => q.i ≤ ls.length ∧ q.rs.map Prod.snd = ls.take q.i) (fun q => [(2, .pointer (some ⟨g2, 0, none⟩)), (3, .pointer (some ⟨g3, 0, none⟩)), (5, .slice A5 (es.length + 1) c5), (6, .slice A6 (cs.length + 1) c6), (7, q.v7), (8, q.v8), (9, .int .i64 (q.i : Nat))])
   (fun q => slc q.v7 44 1 (arV q.rs) :: slc q.v8 44 1 (rowsV q.rs) :: slc (.slice A6 (cs.length + 1) c6) 43 2 (prs (cs ++ [(-3, -4)])) :: slc (.slice A5 (es.length + 1) c5) 43 2 (prs (es ++ [(-1, -2)])) :: blk g3 27 #[.bool pl, .slice Al ls.length cl, .slice Ac cs.length cc] :: blk g2 24 #[.int .i64 N, .slice A es.length cap] :: rowsC 3 (tlR q.rs)) (fun q => ls.length - q.i) ⟨0, .slice none 0 0, .slice none 0 0, []⟩ ⟨Nat.zero_le _, rfl⟩ ⟨rfl, rfl, rfl, rfl, rfl, rfl, rfl, trivial⟩ (Pick.all _) ?_
  rintro ⟨i, v7, v8, rs⟩ ⟨hi, hrs⟩
  dsimp only at hi hrs ⊢
  have hrsl : rs.length = i := by have := congrArg List.length hrs; simp at this; omega
  refine DC.seq <| Zs ?_
  refine Zm ?_
  refine Zf Co ?_
  refine Zl Dl ?_
  refine Zn Tryz.underlying25 ?_
  refine Zc ?_
  refine Zx ?_
  refine Zd (fun c7 => ?_) fun c7 => ?_
  ·have hlt : i < ls.length := by simpa using c7
   obtain ⟨l, hl⟩ : ∃ l, ls[i]? = some l := ⟨_, List.getElem?_eq_getElem hlt⟩
   obtain ⟨ad, lv, hAl, hc, hsl⟩ := hrl i l hl
   have hll := hs l (List.mem_of_getElem? hl)
   obtain ⟨Ax, cx, rfl⟩ : ∃ A c, lv = .slice A l.length c := by obtain ⟨A, c, h, _⟩ := hsl; exact ⟨A, c, h⟩
   subst hAl
   refine DC.skip <| Fin.then <| DC.seq <| DC.block <| Zs ?_
   refine Zw (AP (cs := #[]) rfl rfl Tryz.underlying44 AL BT rfl (by decide) (by decide) rfl rfl) fun g39 => ?_
   refine Zf Co ?_
   refine Zl Dl ?_
   refine Zm ?_
   refine Zo (Ah (ad' := ad.add i) rfl rfl rfl Tryz.underlying25 Br (by omega) (by omega) rfl) ?_
   refine Zu (Ai rfl rfl Bp (Ar hc)) ?_
   refine Seq.rel rfl rfl (Ip rfl rfl rfl Tryz.underlying44 AL Dp BT rfl (by decide) (by decide) (SlV.src2 (w := w) hsl) (by simp) (by omega)) ?_
   rintro _ _ ⟨⟨A45, l45, c45, rfl⟩, rfl⟩
   simp only [List.cons_append, List.nil_append]
   refine Seq.own (fun w hw => own_ap0 (by decide) hw) ?_
   refine Zw (AP (cs := #[_]) rfl rfl Tryz.underlying44 AL BT rfl (by decide) (by decide) rfl rfl) fun g46 => ?_
   refine Seq.gen rfl rfl (CP (AG (F := blk g46 3 #[.int .i64 (-7)] :: slc v7 44 1 (arV rs) :: slc v8 44 1 (rowsV rs) :: slc (.slice A6 (cs.length + 1) c6) 43 2 (prs (cs ++ [(-3, -4)])) :: slc (.slice A5 (es.length + 1) c5) 43 2 (prs (es ++ [(-1, -2)])) :: blk g3 27 _ :: blk g2 24 _ :: rowsC 3 (tlR rs)) (vs := ints l) (k := 1) (news := [.int .i64 (-7)]) rfl rfl rfl Tryz.underlying44 AL Dp BT rfl (by decide) (by decide)
    (fun w hw => hw.pick (.cons 1 rfl (Pick.all _))) (.inl ⟨_, _, rfl, Am rfl⟩) rfl (by intro u hu; simp at hu; subst hu; rfl) (by rw [ints_length]; omega))) ?_
   rintro _ _ ⟨⟨A10, l10, c10, rfl, hl10⟩, rfl⟩
   obtain rfl : l10 = l.length + 1 := by simp at hl10; omega
   refine Za ?_
   refine Seq.nil ?_
   refine Fin.weak (E' := [(2, .pointer (some ⟨g2, 0, none⟩)), (3, .pointer (some ⟨g3, 0, none⟩)), (5, .slice A5 (es.length + 1) c5), (6, .slice A6 (cs.length + 1) c6), (7, v7), (8, v8), (9, .int .i64 (i : Nat)), (10, .slice A10 (l.length + 1) c10)]) ⟨rfl, rfl, rfl, rfl, rfl, rfl, rfl, rfl, trivial⟩ (L' := slc (.slice A10 (l.length + 1) c10) 3 1 (ints (l ++ [-7])) :: slc v7 44 1 (arV rs) :: slc v8 44 1 (rowsV rs) :: slc (.slice A6 (cs.length + 1) c6) 43 2 (prs (cs ++ [(-3, -4)])) :: slc (.slice A5 (es.length + 1) c5) 43 2 (prs (es ++ [(-1, -2)])) :: blk g3 27 _ :: blk g2 24 _ :: rowsC 3 (tlR rs)) (.cons' 0 rfl (by rw [AQ]; rfl) (B0 _ _)) ?_
   refine Fin.then <| DC.seq ?_
   refine GR (φ := l.length + 1 ≤ c10) (fun w hw => by
    obtain ⟨_, _, _, e, _, _, h, _⟩ := BV hw
    cases e; exact h) ?_
   intro hc10
   refine DC.region ?_
   refine Zm ?_
   refine Zm ?_
   refine Zw (AP (cs := #[_]) rfl rfl Tryz.underlying25 Br CV rfl (by decide) (by decide) rfl rfl) fun g50 => ?_
   refine Seq.gen rfl rfl (CP (AG (F := blk g50 44 #[.slice A10 (l.length + 1) c10] :: slc (.slice A10 (l.length + 1) c10) 3 1 (ints (l ++ [-7])) :: slc v7 44 1 (arV rs) :: slc (.slice A6 (cs.length + 1) c6) 43 2 (prs (cs ++ [(-3, -4)])) :: slc (.slice A5 (es.length + 1) c5) 43 2 (prs (es ++ [(-1, -2)])) :: blk g3 27 _ :: blk g2 24 _ :: rowsC 3 (tlR rs)) (vs := rowsV rs) (k := 1) (news := [.slice A10 (l.length + 1) c10]) rfl rfl rfl Tryz.underlying25 Br HN CV rfl (by decide) (by decide)
    (fun w hw => hw.pick (.cons 3 rfl (Pick.all _))) (.inl ⟨_, _, rfl, Am rfl⟩) rfl (fun u hu => by rw [List.mem_singleton.1 hu]; rfl) (by rw [rowsV_length]; omega))) ?_
   rintro _ _ ⟨⟨A51, l51, c51, rfl, hl51⟩, rfl⟩
   refine Za ?_
   refine Seq.nil ?_
   refine Fin.weak (E' := [(2, .pointer (some ⟨g2, 0, none⟩)), (3, .pointer (some ⟨g3, 0, none⟩)), (5, .slice A5 (es.length + 1) c5), (6, .slice A6 (cs.length + 1) c6), (7, v7), (8, .slice A51 l51 c51), (9, .int .i64 (i : Nat)), (10, .slice A10 (l.length + 1) c10)]) ⟨rfl, rfl, rfl, rfl, rfl, rfl, rfl, rfl, trivial⟩ (L' := slc (.slice A10 (l.length + 1) c10) 3 1 (ints (l ++ [-7])) :: slc v7 44 1 (arV rs) :: slc (.slice A51 l51 c51) 44 1 (rowsV rs ++ [.slice A10 (l.length + 1) c10]) :: slc (.slice A6 (cs.length + 1) c6) 43 2 (prs (cs ++ [(-3, -4)])) :: slc (.slice A5 (es.length + 1) c5) 43 2 (prs (es ++ [(-1, -2)])) :: blk g3 27 _ :: blk g2 24 _ :: rowsC 3 (tlR rs)) (.cons 2 rfl (.cons 2 rfl (.cons 0 rfl (B0 _ _)))) ?_
   refine Fin.then <| DC.region ?_
   refine Zm ?_
   refine Zm ?_
   refine Zf Co ?_
   refine Zl Dl ?_
   refine Zm ?_
   refine Zo (Ah (ad' := ad.add i) rfl rfl rfl Tryz.underlying25 Br (by omega) (by omega) rfl) ?_
   refine Zu (Ai rfl rfl Bp (Ar hc)) ?_
   refine Zn Tryz.underlying44 ?_
   refine Zo (CO (hi := l.length) rfl rfl rfl Tryz.underlying44 AL (by omega)) ?_
   refine Zw (AP (cs := #[_]) rfl rfl Tryz.underlying25 Br CV rfl (by decide) (by decide) rfl rfl) fun g61 => ?_
   refine Seq.gen rfl rfl (CP (AG (F := blk g61 44 #[.slice A10 l.length c10] :: slc (.slice A10 (l.length + 1) c10) 3 1 (ints (l ++ [-7])) :: slc (.slice A51 l51 c51) 44 1 (rowsV rs ++ [.slice A10 (l.length + 1) c10]) :: slc (.slice A6 (cs.length + 1) c6) 43 2 (prs (cs ++ [(-3, -4)])) :: slc (.slice A5 (es.length + 1) c5) 43 2 (prs (es ++ [(-1, -2)])) :: blk g3 27 _ :: blk g2 24 _ :: rowsC 3 (tlR rs)) (vs := arV rs) (k := 1) (news := [.slice A10 l.length c10]) rfl rfl rfl Tryz.underlying25 Br HN CV rfl (by decide) (by decide)
    (fun w hw => hw.pick (.cons 2 rfl (Pick.all _))) (.inl ⟨_, _, rfl, Am rfl⟩) rfl (fun u hu => by rw [List.mem_singleton.1 hu]; rfl) (by rw [D7]; omega))) ?_
   rintro _ _ ⟨⟨A62, l62, c62, rfl, hl62⟩, rfl⟩
   refine Za ?_
   refine Seq.nil <| Fin.inBlock <| Fin.then <| DC.region ?_
   refine Zm ?_
   refine Zp ?_
   refine Za ?_
   refine Seq.nil ?_
   refine Fin.own (M := slc (.slice A62 l62 c62) 44 1 (arV (rs ++ [(.slice A10 (l.length + 1) c10, l)])) :: slc (.slice A51 l51 c51) 44 1 (rowsV (rs ++ [(.slice A10 (l.length + 1) c10, l)])) :: slc (.slice A6 (cs.length + 1) c6) 43 2 (prs (cs ++ [(-3, -4)])) :: slc (.slice A5 (es.length + 1) c5) 43 2 (prs (es ++ [(-1, -2)])) :: blk g3 27 #[.bool pl, .slice (some ad) ls.length cl, .slice Ac cs.length cc] :: blk g2 24 #[.int .i64 N, .slice A es.length cap] :: rowsC 3 (tlR (rs ++ [(.slice A10 (l.length + 1) c10, l)]))) (fun w hw => ?_) ?_
   ·have e1 : arV (rs ++ [(.slice A10 (l.length + 1) c10, l)]) = arV rs ++ [.slice A10 l.length c10] := by simp [arV, cutV]
    have e2 : rowsV (rs ++ [(.slice A10 (l.length + 1) c10, l)]) = rowsV rs ++ [.slice A10 (l.length + 1) c10] := by simp [rowsV]
    have e3 : rowsC 3 (tlR (rs ++ [(.slice A10 (l.length + 1) c10, l)])) = rowsC 3 (tlR rs) ++ [slc (.slice A10 (l.length + 1) c10) 3 1 (ints (l ++ [-7]))] := by simp [rowsC, tlR]
    rw [e1, e2, e3]
    have k3 : Own _ _ w (slc (.slice A10 (l.length + 1) c10) 3 1 (ints (l ++ [-7])) :: _) := hw.pick (.cons 2 rfl (.cons 0 rfl (.cons 1 rfl (B0 _ _))))
    refine k3.perm ?_
    exact List.perm_append_comm (l₁ := slc (.slice A62 l62 c62) 44 1 (arV rs ++ [.slice A10 l.length c10]) :: slc (.slice A51 l51 c51) 44 1 (rowsV rs ++ [.slice A10 (l.length + 1) c10]) :: slc (.slice A6 (cs.length + 1) c6) 43 2 (prs (cs ++ [(-3, -4)])) :: slc (.slice A5 (es.length + 1) c5) 43 2 (prs (es ++ [(-1, -2)])) :: blk g3 27 _ :: blk g2 24 _ :: rowsC 3 (tlR rs)) (l₂ := [slc (.slice A10 (l.length + 1) c10) 3 1 (ints (l ++ [-7]))])
   exact Fin.again ⟨i + 1, .slice A62 l62 c62, .slice A51 l51 c51, rs ++ [(.slice A10 (l.length + 1) c10, l)]⟩ (by dsimp only; omega) ⟨by dsimp only; omega, by dsimp only; rw [List.map_append, hrs, List.take_add_one, hl]; rfl⟩ ⟨rfl, rfl, rfl, rfl, rfl, rfl, rfl, trivial⟩ (Pick.all _)
  ·refine DC.exit <| Ad <| Ad <| Ag <| Fin.then <| DC.seq ?_
   have hie : i = ls.length := by simp at c7; omega
   rw [hie, List.take_length] at hrs
   have hrl' : rs.length = ls.length := by omega
   have hrle : ∀ p, p ∈ rs → p.2.length ≤ 2097152 := fun p hp => hs p.2 (by rw [← hrs]; exact List.mem_map_of_mem hp)
   refine Ea (i := 0) (v := v7) rfl ?_
   rintro A7 c7' rfl hA7
   refine Ea (i := 1) (v := v8) rfl ?_
   rintro A8 c8' rfl hA8
   rw [D7, hrl'] 
   rw [rowsV_length, hrl']
   refine GR (φ := ((∃ ad, A6 = some ad) ∧ cs.length + 1 ≤ c6) ∧ (∃ ad, A5 = some ad) ∧ es.length + 1 ≤ c5) (fun w hw => ⟨by
    obtain ⟨ad, c, e, h1, _⟩ := EF (i := 2) hw rfl
    cases e; exact ⟨⟨_, rfl⟩, h1⟩, by
    obtain ⟨ad, c, e, h1, _⟩ := EF (i := 3) hw rfl
    cases e; exact ⟨⟨_, rfl⟩, h1⟩⟩) ?_
   rintro ⟨⟨⟨ad6, rfl⟩, hc6⟩, ⟨ad5, rfl⟩, hc5⟩
   obtain ⟨hA7, hA8⟩ : (0 < ls.length → ∃ ad, A7 = some ad) ∧ (0 < ls.length → ∃ ad, A8 = some ad) :=
    ⟨fun h => hA7 (List.ne_nil_of_length_pos (by rw [D7]; omega)), fun h => hA8 (List.ne_nil_of_length_pos (by rw [rowsV_length]; omega))⟩
   refine AD (cl := [.q, .v, .q, .q, .v, .q, .q, .q, .n, .g]) (A := [0, 1, 0, 0, 8, 24, 60, 127, 0, 511]) (order := [0, 1, 2, 3, 4, 5, 6, 7, 8, 9]) [] mixed (by kernel_rfl) (fun w hw => hw.pick .nil) ?_
   refine Yf Bz ?_
   refine Yl AI ?_
   refine Ym ?_
   refine Yf AS ?_
   refine Yl Bj ?_
   refine Yo rfl (CL rfl rfl Tryz.underlying22) ?_
   refine Yo rfl (CO (hi := es.length) rfl rfl rfl Tryz.underlying22 AW (by omega)) ?_
   refine Yo rfl (AB (cs := #[_, _]) rfl rfl JN rfl rfl) ?_
   refine Bt rfl rfl rfl rfl (AO rfl JW rfl) fun g11 => ?_
   refine Flow.sto (V := blk g11 24 _ :: slc (.slice A7 ls.length c7') 44 1 (arV rs) :: slc (.slice A8 ls.length c8') 44 1 (rowsV rs) :: slc (.slice (some ad6) (cs.length + 1) c6) 43 2 (prs (cs ++ [(-3, -4)])) :: slc (.slice (some ad5) (es.length + 1) c5) 43 2 (prs (es ++ [(-1, -2)])) :: blk g3 27 _ :: blk g2 24 _ :: rowsC 3 (tlR rs)) rfl rfl rfl rfl rfl (Az (cs' := #[_, _]) rfl rfl rfl Bh rfl (Nat.le_of_ble_eq_true rfl) rfl) (fun w hw => hw.pick (.nil)) ?_
   refine Flow.end rfl ?_
   simp only [zq, zr]
   refine Fin.weak (E' := [(2, .pointer (some ⟨g2, 0, none⟩)), (3, .pointer (some ⟨g3, 0, none⟩)), (5, .slice (some ad5) (es.length + 1) c5), (6, .slice (some ad6) (cs.length + 1) c6), (7, .slice A7 ls.length c7'), (8, .slice A8 ls.length c8'), (11, .pointer (some ⟨g11, 0, none⟩))]) ⟨rfl, rfl, rfl, rfl, rfl, rfl, rfl, trivial⟩
    (L' := blk g11 24 #[.int .i64 N, .slice (some ad5) es.length c5] :: slc (.slice A7 ls.length c7') 44 1 (arV rs) :: slc (.slice A8 ls.length c8') 44 1 (rowsV rs) :: slc (.slice (some ad6) (cs.length + 1) c6) 43 2 (prs (cs ++ [(-3, -4)])) :: slc (.slice (some ad5) (es.length + 1) c5) 43 2 (prs (es ++ [(-1, -2)])) :: blk g3 27 #[.bool pl, .slice Al ls.length cl, .slice Ac cs.length cc] :: blk g2 24 #[.int .i64 N, .slice A es.length cap] :: rowsC 3 (tlR rs)) (Pick.all _) ?_
   refine Fin.then <| DC.seq ?_
   refine AD (cl := [.q, .v, .q, .q, .q, .v, .q, .q, .q, .n, .g]) (A := [0, 1, 0, 0, 0, 16, 48, 120, 255, 0, 1023]) (order := [0, 1, 2, 3, 4, 5, 6, 7, 8, 9, 10]) [] mixed (by kernel_rfl) (fun w hw => hw.pick .nil) ?_
   refine Yf C2 ?_
   refine Yl Id ?_
   refine Ym ?_
   refine Ym ?_
   refine Yf BR ?_
   refine Yl Bj ?_
   refine Yo rfl (CL rfl rfl Tryz.underlying22) ?_
   refine Yo rfl (CO (hi := cs.length) rfl rfl rfl Tryz.underlying22 AW (by omega)) ?_
   refine Yo rfl (AB (cs := #[_, _, _]) rfl rfl bs27 rfl rfl) ?_
   refine Bt rfl rfl rfl rfl (AO rfl ze27 rfl) fun g12 => ?_
   refine Flow.sto (V := blk g12 27 _ :: blk g11 24 _ :: slc (.slice A7 ls.length c7') 44 1 (arV rs) :: slc (.slice A8 ls.length c8') 44 1 (rowsV rs) :: slc (.slice (some ad6) (cs.length + 1) c6) 43 2 (prs (cs ++ [(-3, -4)])) :: slc (.slice (some ad5) (es.length + 1) c5) 43 2 (prs (es ++ [(-1, -2)])) :: blk g3 27 _ :: blk g2 24 _ :: rowsC 3 (tlR rs)) rfl rfl rfl rfl rfl (Az (cs' := #[_, _, _]) rfl rfl rfl EX rfl (Nat.le_of_ble_eq_true rfl) rfl) (fun w hw => hw.pick (.nil)) ?_
   refine Flow.end rfl ?_
   simp only [zq, zr]
   refine Fin.weak (E' := [(2, .pointer (some ⟨g2, 0, none⟩)), (3, .pointer (some ⟨g3, 0, none⟩)), (5, .slice (some ad5) (es.length + 1) c5), (6, .slice (some ad6) (cs.length + 1) c6), (7, .slice A7 ls.length c7'), (8, .slice A8 ls.length c8'), (11, .pointer (some ⟨g11, 0, none⟩)), (12, .pointer (some ⟨g12, 0, none⟩))]) ⟨rfl, rfl, rfl, rfl, rfl, rfl, rfl, rfl, trivial⟩ (L' := blk g12 27 #[.bool pl, .slice A7 ls.length c7', .slice (some ad6) cs.length c6] :: blk g11 24 #[.int .i64 N, .slice (some ad5) es.length c5] :: slc (.slice A7 ls.length c7') 44 1 (arV rs) :: slc (.slice A8 ls.length c8') 44 1 (rowsV rs) :: slc (.slice (some ad6) (cs.length + 1) c6) 43 2 (prs (cs ++ [(-3, -4)])) :: slc (.slice (some ad5) (es.length + 1) c5) 43 2 (prs (es ++ [(-1, -2)])) :: blk g3 27 #[.bool pl, .slice Al ls.length cl, .slice Ac cs.length cc] :: blk g2 24 #[.int .i64 N, .slice A es.length cap] :: rowsC 3 (tlR rs)) (Pick.all _) ?_
   refine Fin.then <| DC.seq ?_
   have hLs : ∀ w', Own w [] w' (blk g12 27 #[.bool pl, .slice A7 ls.length c7', .slice (some ad6) cs.length c6] :: blk g11 24 #[.int .i64 N, .slice (some ad5) es.length c5] :: slc (.slice A7 ls.length c7') 44 1 (arV rs) :: slc (.slice A8 ls.length c8') 44 1 (rowsV rs) :: slc (.slice (some ad6) (cs.length + 1) c6) 43 2 (prs (cs ++ [(-3, -4)])) :: slc (.slice (some ad5) (es.length + 1) c5) 43 2 (prs (es ++ [(-1, -2)])) :: blk g3 27 #[.bool pl, .slice Al ls.length cl, .slice Ac cs.length cc] :: blk g2 24 #[.int .i64 N, .slice A es.length cap] :: rowsC 3 (tlR rs)) → LsV w' (.slice A7 ls.length c7') ls := fun w' hw => by
    have := E6 hw (by omega) hrle
    rwa [hrs] at this
   refine DC.region ?_
   refine Zu (Aw (vs := [_, _]) rfl rfl Bo Bh rfl (Am rfl)) ?_
   refine Zu (Aw (vs := [_, _, _]) rfl rfl FO EX rfl (Am rfl)) ?_
   refine Seq.rel0 rfl rfl (Ao en10 rfl rfl rfl (fun w hw => Cw (CS (i := 5) hw rfl hel) (hLs _ hw) (CS (i := 4) hw rfl hcl) (hp.keep0 hw) hs)) ?_
   rintro _ rfl
   refine Za ?_
   refine Zx <| DC.seq <| Zs ?_
   refine Zm ?_
   refine Zu (Aw (vs := [_, _]) rfl rfl Bo Bh rfl (Am rfl)) ?_
   refine Zu (Aw (vs := [_, _, _]) rfl rfl FO EX rfl (Am rfl)) ?_
   refine Seq.rel0 rfl rfl (Ao en10 rfl rfl rfl (fun w hw => Cw (CS (i := 5) hw rfl hel) (hLs _ hw) (CS (i := 4) hw rfl hcl) (hp.keep0 hw) hs)) ?_
   rintro _ rfl
   refine Zo (BB rfl rfl rfl) ?_
   refine Zm ?_
   refine Seq.split 88 rfl (fun k15_5 => ?_) (fun k15_5 => ?_)
   ·simp at k15_5
   ·refine Zm ?_
    refine Zu (Aw (vs := [_, _]) rfl rfl Bo Bh rfl (Am rfl)) ?_
    refine Zu (Aw (vs := [_, _, _]) rfl rfl FO EX rfl (Am rfl)) ?_
    refine Seq.rel0 rfl rfl (Ao en13 rfl rfl rfl (fun w hw => Ep (hg.keep0 hw) (hv.keep0 hw) (hu.keep0 hw) hn hs)) ?_
    rintro _ rfl
    refine Zo (BB rfl rfl rfl) ?_
    refine Zg ?_
    refine Zm ?_
    refine Seq.split 95 rfl (fun k15_12 => ?_) (fun k15_12 => ?_)
    ·simp at k15_12
    ·refine Zu (Aw (vs := [_, _]) rfl rfl Bo Bh rfl (Am rfl)) ?_
     refine Zu (Aw (vs := [_, _]) rfl rfl Bo Bh rfl (Am rfl)) ?_
     refine Seq.rel0 rfl rfl (Ao en17 rfl rfl rfl (fun w hw => H0 (CS (i := 5) hw rfl hel) (hg.keep0 hw))) ?_
     rintro _ rfl
     refine Zo (Bg rfl rfl) ?_
     refine Zg ?_
     refine Zm ?_
     refine Seq.split 101 rfl (fun k15_18 => ?_) (fun k15_18 => ?_)
     ·simp at k15_18
     ·refine Zu (Aw (vs := [_, _, _]) rfl rfl FO EX rfl (Am rfl)) ?_
      refine Zu (Aw (vs := [_, _, _]) rfl rfl FO EX rfl (Am rfl)) ?_
      refine Seq.rel0 rfl rfl (Ao en18 rfl rfl rfl (fun w hw => H1 (hLs _ hw) (CS (i := 4) hw rfl hcl) (hv.keep0 hw) (hu.keep0 hw))) ?_
      rintro _ rfl
      refine Zo (Bg rfl rfl) ?_
      refine Zg ?_
      refine Zx ?_
      refine Zd (fun c15 => ?_) fun c15 => ?_
      ·simp at c15
      ·refine DC.skip <| Fin.then <| DC.seq <| Zs ?_
       refine Za ?_
       refine Zx <| DC.block ?_
       refine DC.loop (ι := OwI) (fun q => q.i ≤ ls.length) (fun q => [(2, .pointer (some ⟨g2, 0, none⟩)), (3, .pointer (some ⟨g3, 0, none⟩)), (5, .slice (some ad5) (es.length + 1) c5), (6, .slice (some ad6) (cs.length + 1) c6), (7, .slice A7 ls.length c7'), (8, .slice A8 ls.length c8'), (11, .pointer (some ⟨g11, 0, none⟩)), (12, .pointer (some ⟨g12, 0, none⟩)), (14, .int .i64 (q.i : Nat))]) (fun _ => blk g12 27 #[.bool pl, .slice A7 ls.length c7', .slice (some ad6) cs.length c6] :: blk g11 24 #[.int .i64 N, .slice (some ad5) es.length c5] :: slc (.slice A7 ls.length c7') 44 1 (arV rs) :: slc (.slice A8 ls.length c8') 44 1 (rowsV rs) :: slc (.slice (some ad6) (cs.length + 1) c6) 43 2 (prs (cs ++ [(-3, -4)])) :: slc (.slice (some ad5) (es.length + 1) c5) 43 2 (prs (es ++ [(-1, -2)])) :: blk g3 27 #[.bool pl, .slice Al ls.length cl, .slice Ac cs.length cc] :: blk g2 24 #[.int .i64 N, .slice A es.length cap] :: rowsC 3 (tlR rs)) (fun q => ls.length - q.i) ⟨0⟩ (Nat.zero_le _) ⟨rfl, rfl, rfl, rfl, rfl, rfl, rfl, rfl, rfl, trivial⟩ (Pick.all _) ?_
       rintro ⟨i2⟩ hi2
       dsimp only at hi2 ⊢
       refine DC.seq <| Zs ?_
       refine Zm ?_
       refine Zm ?_
       refine Zn Tryz.underlying25 ?_
       refine Zc ?_
       refine Zx ?_
       refine Zd (fun c18 => ?_) fun c18 => ?_
       ·have hlt2 : i2 < ls.length := by simpa using c18
        obtain ⟨ad8, rfl⟩ := hA8 (by omega)
        obtain ⟨p, hp2⟩ : ∃ p, rs[i2]? = some p := ⟨_, List.getElem?_eq_getElem (by omega)⟩
        have hpl := hrle p (List.mem_of_getElem? hp2)
        refine GR (φ := ∃ ad c, p.1 = .slice (some ad) (p.2.length + 1) c ∧ p.2.length + 1 ≤ c) (fun w hw => G4 hw hp2 hpl) ?_
        rintro ⟨adp, cp, hp1, hcp⟩
        have hrow : (rowsV rs)[i2]? = some (.slice (some adp) (p.2.length + 1) cp) := by simp [rowsV, hp2, hp1]
        refine DC.skip <| Fin.then <| DC.seq <| DC.block <| DC.seq ?_
        refine AD (cl := [.q, .q, .q, .v, .q, .q, .q, .v, .q, .q, .q, .v, .q]) (A := [0, 0, 3, 7, 0, 0, 48, 112, 240, 496, 1023, 2047, 4095]) (order := [0, 1, 2, 3, 4, 5, 6, 7, 8, 9, 10, 11, 12]) [] mixed (by kernel_rfl) (fun w hw => hw.pick .nil) ?_
        refine Ym ?_
        refine Ym ?_
        refine Yo rfl (Ah (ad' := ad8.add i2) rfl rfl rfl Tryz.underlying25 Br (by omega) (by omega) (by rw [Int.toNat_natCast])) ?_
        refine Aj rfl rfl rfl rfl (Ai rfl rfl Bp (CE (i := 3) rfl hrow)) ?_
        refine Ym ?_
        refine Ym ?_
        refine Yo rfl (Ah (ad' := ad8.add i2) rfl rfl rfl Tryz.underlying25 Br (by omega) (by omega) (by rw [Int.toNat_natCast])) ?_
        refine Aj rfl rfl rfl rfl (Ai rfl rfl Bp (CE (i := 3) rfl hrow)) ?_
        refine Yo rfl (CL rfl rfl Tryz.underlying44) ?_
        refine Yo rfl (BA rfl rfl rfl (by omega)) ?_
        refine Yo rfl (Ah (ad' := adp.add p.2.length) rfl rfl rfl Tryz.underlying44 AL (by omega) (by omega) (by congr 1; omega)) ?_
        refine Aj rfl rfl rfl rfl (Ai rfl rfl AI (BJ (i := 8 + i2) (q := -7) (by rw [← hp1]; exact row8 hp2) (by simp) (by simp; omega))) ?_
        refine Yo rfl (BB rfl rfl rfl) ?_
        refine Flow.end rfl ?_
        simp only [zq, zr]
        refine Fin.then ?_
        refine Zd (fun c20 => ?_) fun c20 => ?_
        ·simp at c20
        ·refine DC.skip <| Fin.inBlock <| Fin.then <| DC.region ?_
         refine Zm ?_
         refine Zp ?_
         refine Za ?_
         refine Seq.nil ?_
         exact Fin.again ⟨i2 + 1⟩ (by dsimp only; omega) (by dsimp only; omega) ⟨rfl, rfl, rfl, rfl, rfl, rfl, rfl, rfl, rfl, trivial⟩ (Pick.all _)
       ·refine DC.exit <| Ad <| Ad <| Ag <| Fin.then <| DC.seq <| Zs ?_
        refine Zm ?_
        refine Zf AS ?_
        refine Zl Bj ?_
        refine Zn Tryz.underlying22 ?_
        refine Zo (AE (ad' := ad5.add (es.length * 2)) rfl rfl rfl Tryz.underlying22 AW (by omega) (by omega) rfl) ?_
        refine Zu (Aw (vs := [_, _]) rfl rfl Cr AW rfl (IH (i := 5) (j := es.length) (q := (-1, -2)) rfl (by simp))) ?_
        refine Zo (AB (cs := #[_, _]) rfl rfl Gg rfl rfl) ?_
        refine Zo (E4 rfl rfl rfl (by kernel_rfl)) ?_
        refine Zm ?_
        refine Seq.split 134 rfl (fun k22_8 => ?_) (fun k22_8 => ?_)
        ·simp at k22_8
        ·refine Zm ?_
         refine Zf BR ?_
         refine Zl Bj ?_
         refine Zn Tryz.underlying22 ?_
         refine Zo (AE (ad' := ad6.add (cs.length * 2)) rfl rfl rfl Tryz.underlying22 AW (by omega) (by omega) rfl) ?_
         refine Zu (Aw (vs := [_, _]) rfl rfl Cr AW rfl (IH (i := 4) (j := cs.length) (q := (-3, -4)) rfl (by simp))) ?_
         refine Zo (AB (cs := #[_, _]) rfl rfl Gg rfl rfl) ?_
         refine Zo (E4 rfl rfl rfl (by kernel_rfl)) ?_
         refine Zg ?_
         refine Zx ?_
         refine Zd (fun c22 => ?_) fun c22 => ?_
         ·simp at c22
         ·refine DC.skip <| Fin.then <| DC.seq <| Zs ?_
          refine Za ?_
          refine Zx <| DC.block ?_
          refine DC.loop (ι := OwR) (fun q => q.i ≤ ls.length ∧ q.rs.length = ls.length ∧ ∀ p, p ∈ q.rs → p.2.length ≤ 2097152) (fun q => [(2, .pointer (some ⟨g2, 0, none⟩)), (3, .pointer (some ⟨g3, 0, none⟩)), (5, .slice (some ad5) (es.length + 1) c5), (6, .slice (some ad6) (cs.length + 1) c6), (7, .slice A7 ls.length c7'), (8, .slice A8 ls.length c8'), (11, .pointer (some ⟨g11, 0, none⟩)), (12, .pointer (some ⟨g12, 0, none⟩)), (15, .int .i64 (q.i : Nat))]) (fun q => blk g12 27 #[.bool pl, .slice A7 ls.length c7', .slice (some ad6) cs.length c6] :: blk g11 24 #[.int .i64 N, .slice (some ad5) es.length c5] :: slc (.slice A7 ls.length c7') 44 1 (arV q.rs) :: slc (.slice A8 ls.length c8') 44 1 (rowsV q.rs) :: slc (.slice (some ad6) (cs.length + 1) c6) 43 2 (prs (cs ++ [(-3, -4)])) :: slc (.slice (some ad5) (es.length + 1) c5) 43 2 (prs (es ++ [(-1, -2)])) :: blk g3 27 #[.bool pl, .slice Al ls.length cl, .slice Ac cs.length cc] :: blk g2 24 #[.int .i64 N, .slice A es.length cap] :: rowsC 3 (tlR q.rs)) (fun q => ls.length - q.i) ⟨0, rs⟩ ⟨Nat.zero_le _, hrl', hrle⟩ ⟨rfl, rfl, rfl, rfl, rfl, rfl, rfl, rfl, rfl, trivial⟩ (Pick.all _) ?_
          rintro ⟨i3, rs3⟩ ⟨hi3, hrl3, hrle3⟩
          dsimp only at hi3 hrl3 hrle3 ⊢
          refine DC.seq <| Zs ?_
          refine Zm ?_
          refine Zm ?_
          refine Zn Tryz.underlying25 ?_
          refine Zc ?_
          refine Zx ?_
          refine Zd (fun c25 => ?_) fun c25 => ?_
          ·have hlt3 : i3 < ls.length := by simpa using c25
           obtain ⟨ad7, rfl⟩ := hA7 (by omega)
           obtain ⟨p0, hp0⟩ : ∃ p, rs3[i3]? = some p := ⟨_, List.getElem?_eq_getElem (by omega)⟩
           obtain ⟨m, hm⟩ : ∃ m, m = p0.2.length := ⟨_, rfl⟩
           refine DC.skip <| Fin.then <| DC.seq <| DC.block <| Zs ?_
           refine Za ?_
           refine Zx <| DC.block ?_
           refine DC.loop (ι := OwR) (fun q => (1 ≤ q.i ∧ q.i ≤ m + 1) ∧ q.rs.length = ls.length ∧ (∀ p, p ∈ q.rs → p.2.length ≤ 2097152) ∧ ∃ p, q.rs[i3]? = some p ∧ p.2.length = m) (fun q => [(2, .pointer (some ⟨g2, 0, none⟩)), (3, .pointer (some ⟨g3, 0, none⟩)), (5, .slice (some ad5) (es.length + 1) c5), (6, .slice (some ad6) (cs.length + 1) c6), (7, .slice (some ad7) ls.length c7'), (8, .slice A8 ls.length c8'), (11, .pointer (some ⟨g11, 0, none⟩)), (12, .pointer (some ⟨g12, 0, none⟩)), (15, .int .i64 (i3 : Nat)), (16, .int .i64 (q.i : Nat))]) (fun q => blk g12 27 #[.bool pl, .slice (some ad7) ls.length c7', .slice (some ad6) cs.length c6] :: blk g11 24 #[.int .i64 N, .slice (some ad5) es.length c5] :: slc (.slice (some ad7) ls.length c7') 44 1 (arV q.rs) :: slc (.slice A8 ls.length c8') 44 1 (rowsV q.rs) :: slc (.slice (some ad6) (cs.length + 1) c6) 43 2 (prs (cs ++ [(-3, -4)])) :: slc (.slice (some ad5) (es.length + 1) c5) 43 2 (prs (es ++ [(-1, -2)])) :: blk g3 27 #[.bool pl, .slice Al ls.length cl, .slice Ac cs.length cc] :: blk g2 24 #[.int .i64 N, .slice A es.length cap] :: rowsC 3 (tlR q.rs)) (fun q => m - q.i) ⟨1, rs3⟩ ⟨⟨Nat.le_refl _, by dsimp only; omega⟩, hrl3, hrle3, p0, hp0, hm.symm⟩ ⟨rfl, rfl, rfl, rfl, rfl, rfl, rfl, rfl, rfl, rfl, trivial⟩ (Pick.all _) ?_
           rintro ⟨k, rs4⟩ ⟨⟨hk1, hkm⟩, hrl4, hrle4, p, hp4, hpm⟩
           dsimp only at hk1 hkm hrl4 hrle4 hp4 hpm ⊢
           subst hpm
           have hpl := hrle4 p (List.mem_of_getElem? hp4)
           refine GR (φ := ∃ ad c, p.1 = .slice (some ad) (p.2.length + 1) c ∧ p.2.length + 1 ≤ c) (fun w hw => G4 hw hp4 hpl) ?_
           rintro ⟨adp, cp, hp1, hcp⟩
           have hrow : (arV rs4)[i3]? = some (.slice (some adp) p.2.length cp) := by simp [arV, hp4, hp1, cutV]
           refine DC.seq <| Zs ?_
           refine Zm ?_
           refine Zp ?_
           refine Zm ?_
           refine Zm ?_
           refine Zo (Ah (ad' := ad7.add i3) rfl rfl rfl Tryz.underlying25 Br (by omega) (by omega) (by rw [Int.toNat_natCast])) ?_
           refine Zu (Ai rfl rfl Bp (CE (i := 2) rfl hrow)) ?_
           refine Zn Tryz.underlying44 ?_
           refine Zc ?_
           refine Zx ?_
           refine Zd (fun c28 => ?_) fun c28 => ?_
           ·have hk2 : k + 1 < p.2.length := by simp at c28; omega
            obtain ⟨x, hx⟩ : ∃ x, p.2[k + 1]? = some x := ⟨_, List.getElem?_eq_getElem hk2⟩
            obtain ⟨y, hy⟩ : ∃ y, p.2[k]? = some y := ⟨_, List.getElem?_eq_getElem (by omega)⟩
            refine DC.skip <| Fin.then <| DC.seq <| DC.block ?_
            refine AD (cl := [.q, .q, .q, .v, .q, .q, .q, .q, .v, .q, .q, .q, .q, .q, .v, .q, .q, .q, .v, .q, .q, .q, .v, .q, .q, .v, .q, .g, .q, .g]) (A := [0, 0, 3, 7, 0, 0, 0, 96, 224, 0, 512, 0, 0, 6144, 14336, 0, 32768, 129024, 260096, 0, 0, 1572864, 3670016, 0, 16252928, 33030144, 67107327, 134216191, 268435455, 536870911]) (order := [0, 1, 2, 3, 4, 5, 6, 7, 8, 9, 10, 11, 12, 13, 14, 15, 16, 17, 18, 19, 20, 21, 22, 23, 24, 25, 26, 27, 28, 29]) [] mixed (by kernel_rfl) (fun w hw => hw.pick .nil) ?_
            refine Ym ?_
            refine Ym ?_
            refine Yo rfl (Ah (ad' := ad7.add i3) rfl rfl rfl Tryz.underlying25 Br (by omega) (by omega) (by rw [Int.toNat_natCast])) ?_
            refine Aj rfl rfl rfl rfl (Ai rfl rfl Bp (CE (i := 2) rfl hrow)) ?_
            refine Ym ?_
            refine Ym ?_
            refine Ym ?_
            refine Yo rfl (Ah (ad' := ad7.add i3) rfl rfl rfl Tryz.underlying25 Br (by omega) (by omega) (by rw [Int.toNat_natCast])) ?_
            refine Aj rfl rfl rfl rfl (Ai rfl rfl Bp (CE (i := 2) rfl hrow)) ?_
            refine Ym ?_
            refine Yo rfl (Cv rfl rfl rfl (by omega)) ?_
            refine Ym ?_
            refine Ym ?_
            refine Yo rfl (Ah (ad' := ad7.add i3) rfl rfl rfl Tryz.underlying25 Br (by omega) (by omega) (by rw [Int.toNat_natCast])) ?_
            refine Aj rfl rfl rfl rfl (Ai rfl rfl Bp (CE (i := 2) rfl hrow)) ?_
            refine Ym ?_
            refine Yo rfl (Cv rfl rfl rfl (by omega)) ?_
            refine Yo rfl (Ah (ad' := adp.add (k + 1)) rfl rfl rfl Tryz.underlying44 AL (by omega) (by omega) (by congr 1)) ?_
            refine Aj rfl rfl rfl rfl (Ai rfl rfl AI (BJ (i := 8 + i3) (q := x) (by rw [← hp1]; exact row8 hp4) (by rw [List.getElem?_append_left hk2]; exact hx) (by simp; omega))) ?_
            refine Ym ?_
            refine Ym ?_
            refine Yo rfl (Ah (ad' := ad7.add i3) rfl rfl rfl Tryz.underlying25 Br (by omega) (by omega) (by rw [Int.toNat_natCast])) ?_
            refine Aj rfl rfl rfl rfl (Ai rfl rfl Bp (CE (i := 2) rfl hrow)) ?_
            refine Ym ?_
            refine Yo rfl (Ah (ad' := adp.add k) rfl rfl rfl Tryz.underlying44 AL (by omega) (by omega) (by rw [Int.toNat_natCast])) ?_
            refine Aj rfl rfl rfl rfl (Ai rfl rfl AI (BJ (i := 8 + i3) (q := y) (by rw [← hp1]; exact row8 hp4) (by rw [List.getElem?_append_left (by omega)]; exact hy) (by simp; omega))) ?_
            refine Yo rfl (Ah (ad' := adp.add k) rfl rfl rfl Tryz.underlying44 AL (by omega) (by omega) (by rw [Int.toNat_natCast])) ?_
            refine AX rfl rfl rfl rfl (G3 (i := 8 + i3) (j := k) (by rw [← hp1]; exact row8 hp4) rfl rfl rfl AL (by simp; omega)) (fun w hw => hw.pick (.nil)) ?_
            refine Yo rfl (Ah (ad' := adp.add (k + 1)) rfl rfl rfl Tryz.underlying44 AL (by omega) (by omega) (by congr 1)) ?_
            refine AX rfl rfl rfl rfl (G3 (i := 8 + i3) (j := k + 1) (row8s hp4) rfl rfl rfl AL (by simp; omega)) (fun w hw => hw.pick (.nil)) ?_
            refine Flow.end rfl ?_
            simp only [zq, zr]
            refine Fin.own (M := blk g12 27 #[.bool pl, .slice (some ad7) ls.length c7', .slice (some ad6) cs.length c6] :: blk g11 24 #[.int .i64 N, .slice (some ad5) es.length c5] :: slc (.slice (some ad7) ls.length c7') 44 1 (arV rs4) :: slc (.slice A8 ls.length c8') 44 1 (rowsV rs4) :: slc (.slice (some ad6) (cs.length + 1) c6) 43 2 (prs (cs ++ [(-3, -4)])) :: slc (.slice (some ad5) (es.length + 1) c5) 43 2 (prs (es ++ [(-1, -2)])) :: blk g3 27 #[.bool pl, .slice Al ls.length cl, .slice Ac cs.length cc] :: blk g2 24 #[.int .i64 N, .slice A es.length cap] :: rowsC 3 (tlR (rs4.set i3 (p.1, swpL p.2 k x y)))) (fun w hw => own_swap8 hp4 hp1.symm hk2 hw) ?_
            refine Fin.inBlock <| Fin.then <| DC.region ?_
            refine Zm ?_
            refine Zp ?_
            refine Za ?_
            refine Seq.nil ?_
            refine Fin.again ⟨k + 1, rs4.set i3 (p.1, swpL p.2 k x y)⟩ (by dsimp only; omega) ⟨⟨by dsimp only; omega, by dsimp only; omega⟩, by dsimp only; rw [List.length_set]; exact hrl4, ?_, (p.1, swpL p.2 k x y), ?_, by simp [GZ]⟩ ⟨rfl, rfl, rfl, rfl, rfl, rfl, rfl, rfl, rfl, rfl, trivial⟩ (.cons 0 rfl (.cons 0 rfl (.cons' 0 rfl (by rw [arV_set hp4]) (.cons' 0 rfl (by rw [LB hp4]) (Pick.all _)))))
            ·intro p' hp'
             rcases List.mem_or_eq_of_mem_set hp' with h | h
             ·exact hrle4 p' h
             ·subst h; simpa [GZ] using hpl
            ·dsimp only
             rw [List.getElem?_set_self (by omega)]
           ·refine DC.exit <| Ad <| Ad <| Ag <| Fin.inBlock <| Fin.then <| DC.region ?_
            refine Zm ?_
            refine Zp ?_
            refine Za ?_
            refine Seq.nil ?_
            exact Fin.again ⟨i3 + 1, rs4⟩ (by dsimp only; omega) ⟨by dsimp only; omega, hrl4, hrle4⟩ ⟨rfl, rfl, rfl, rfl, rfl, rfl, rfl, rfl, rfl, trivial⟩ (Pick.all _)
          ·refine DC.exit <| Ad <| Ad <| Ag <| Fin.then ?_
           refine DC.cut (ι := OwC) (fun j => ∀ (w' : World) (L' : List Chunk), Own w [] w' L' → L'[4]? = some (slc (.slice (some ad6) (cs.length + 1) c6) 43 2 (prs (cs ++ [(-3, -4)]))) → PrV w' (.slice j.A j.l j.c) j.cs)
            (fun j => [(2, .pointer (some ⟨g2, 0, none⟩)), (3, .pointer (some ⟨g3, 0, none⟩)), (11, .pointer (some ⟨g11, 0, none⟩)), (12, .pointer (some ⟨g12, 0, none⟩))])
            (fun j => blk g12 27 #[.bool pl, .slice A7 ls.length c7', .slice j.A j.l j.c] :: blk g11 24 #[.int .i64 N, .slice (some ad5) es.length c5] :: slc (.slice A7 ls.length c7') 44 1 (arV rs3) :: slc (.slice A8 ls.length c8') 44 1 (rowsV rs3) :: slc (.slice (some ad6) (cs.length + 1) c6) 43 2 (prs (cs ++ [(-3, -4)])) :: slc (.slice (some ad5) (es.length + 1) c5) 43 2 (prs (es ++ [(-1, -2)])) :: blk g3 27 #[.bool pl, .slice Al ls.length cl, .slice Ac cs.length cc] :: blk g2 24 #[.int .i64 N, .slice A es.length cap] :: rowsC 3 (tlR rs3)) ?first32 ?rest32
           case first32 =>
            refine Zs ?_
            refine Zf BR ?_
            refine Zl Bj ?_
            refine Zn Tryz.underlying22 ?_
            refine Zo (BC rfl rfl rfl) ?_
            refine Zx ?_
            refine Zd (fun c31 => ?_) fun c31 => ?_
            ·refine DC.region ?_
             refine Zf BR ?_
             refine Zl Bj ?_
             refine Zo (C5 (lo := 1) rfl rfl rfl Tryz.underlying22 AW (by simp at c31; omega)) ?_
             refine Zf BR ?_
             refine Zy (AF (cs' := #[_, _, _]) rfl rfl rfl sz22 rfl (Nat.le_of_ble_eq_true rfl) rfl) ?_
             refine Seq.nil ?_
             first
             | exact AJ ⟨_, _, _, cs.tail⟩ (fun w' L' h hi => Kk h hi hcl (by simp at c31; omega)) ⟨rfl, rfl, rfl, rfl, trivial⟩ (Pick.all _)
             | exact AJ ⟨_, _, _, cs⟩ (fun w' L' h hi => CS h hi hcl) ⟨rfl, rfl, rfl, rfl, trivial⟩ (Pick.all _)
            ·refine DC.skip ?_
             first
             | exact AJ ⟨_, _, _, cs.tail⟩ (fun w' L' h hi => Kk h hi hcl (by simp at c31; omega)) ⟨rfl, rfl, rfl, rfl, trivial⟩ (Pick.all _)
             | exact AJ ⟨_, _, _, cs⟩ (fun w' L' h hi => CS h hi hcl) ⟨rfl, rfl, rfl, rfl, trivial⟩ (Pick.all _)
           case rest32 =>
            rintro ⟨A32, l32, c32, cs32⟩ hcs
            dsimp only at hcs ⊢
            obtain ⟨ls3, hls3⟩ : ∃ ls3, ls3 = rs3.map Prod.snd := ⟨_, rfl⟩
            have hsl3 : ∀ l, l ∈ ls3 → l.length ≤ 2097152 := fun l hl => by
             rw [hls3] at hl
             obtain ⟨p, hp, rfl⟩ := List.mem_map.1 hl
             exact hrle3 p hp
            have hln3 : ls3.length ≤ 1000000000 := by rw [hls3, List.length_map]; omega
            refine DC.seq ?_
            refine AD (cl := [.v, .v, .r, .v, .v, .r, .q, .q]) (A := [0, 0, 3, 0, 0, 31, 63, 127]) (order := [0, 1, 2, 3, 4, 5, 6, 7]) [] mixed (by kernel_rfl) (fun w hw => hw.pick .nil) ?_
            refine Aj rfl rfl rfl rfl (Aw (vs := [_, _]) rfl rfl Bo Bh rfl (Am rfl)) ?_
            refine Aj rfl rfl rfl rfl (Aw (vs := [_, _, _]) rfl rfl FO EX rfl (Am rfl)) ?_
            refine Flow.rel0 rfl rfl rfl rfl (Ao en10 rfl rfl rfl (fun w hw => Cw (ls := ls3) (CS (i := 5) hw rfl hel) (by rw [hls3]; exact E6 hw (by omega) hrle3) (hcs _ _ hw rfl) (hp.keep0 hw) hsl3)) ?_
            rintro _ rfl
            refine Aj rfl rfl rfl rfl (Aw (vs := [_, _]) rfl rfl Bo Bh rfl (Am rfl)) ?_
            refine Aj rfl rfl rfl rfl (Aw (vs := [_, _, _]) rfl rfl FO EX rfl (Am rfl)) ?_
            refine Flow.rel0 rfl rfl rfl rfl (Ao en13 rfl rfl rfl (fun w hw => Ep (ls := ls3) (CS (i := 5) hw rfl hel) (by rw [hls3]; exact E6 hw (by omega) hrle3) (hcs _ _ hw rfl) hln3 hsl3)) ?_
            rintro _ rfl
            refine Yo rfl (AN rfl rfl rfl) ?_
            refine Yo rfl (AY rfl rfl) ?_
            refine Flow.end rfl ?_
            simp only [zq, zr]
            refine Fin.then <| DC.ret ?_
            refine Fin.weak (E' := [(4, _)]) (L' := []) ⟨rfl, trivial⟩ .nil ?_
            refine Ak (.inl rfl) rfl rfl ?_
            simp
end Go.Fl

namespace Go.Fl
open Go Go.ChangeShapes Go.WideShapes Go.Deep
section
variable {H : Type} {enc : TypeId × Value → H} {P : Program} {W : World} {held : Bool}
def Light (P : Program) (t : TypeId) (d : DataW H) : Prop := ∀ n ∈ d.weights P t, n ≤ reachBytes
theorem open_pr {t e : TypeId} {f0 f1 : Field} {n : Nat} {v : Value} {y : DataW H × List MemPlace} (ht : P.underlying t = some (.slice e)) (he : P.underlying e = some (.struct #[f0, f1])) (ce : P.cellsOf e = 2) (o0 : f0.offset = 0) (o1 : f1.offset = 1)
  (c0 : P.cellsOf f0.type = 1) (c1 : P.cellsOf f1.type = 1) (i0 : P.underlying f0.type = some (.int .i64)) (i1 : P.underlying f1.type = some (.int .i64)) (hb : P.bytesOf e = 16)
  (h : DataW.trod enc P W 0 (fun _ => true) held n t [v] = some y) (hw : Light P t y.1) : ∃ es, PrV W v es ∧ ∀ x ∈ es, (Lit.int .i64 x.1).wf = true ∧ (Lit.int .i64 x.2).wf = true := by
 rcases open_slice_pairs ht he ce o0 o1 c0 c1 h with ⟨h1, h2⟩ | ⟨a, len, cap, m, n', V0, V1, D0, D1, P0, P1, h1, h2, h3, h4, h5, h6, h7⟩
 ·cases h1
  exact ⟨[], ⟨none, 0, rfl, fun j u hj => by simp [prs] at hj, Nat.le_refl _, by omega, by simp⟩, by simp⟩
 ·cases h1
  simp only [if_true] at h5
  subst h5 h6
  have hwt : (len + (m - len)) * 16 ≤ reachBytes := hw _ (by simp [DataW.weights, ht, hb])
  have hr : reachBytes = 140737488351232 := by decide
  simp only [maxLen] at h4
  have hV : ∀ i, i < len → ∃ q : Pr, W.cell? (a.add (i * 2)) = some (.int .i64 q.1) ∧ W.cell? (a.add (i * 2 + 1)) = some (.int .i64 q.2) ∧ (Lit.int .i64 q.1).wf = true ∧ (Lit.int .i64 q.2).wf = true := by
   intro i hi
   obtain ⟨k0, k1, k2, k3⟩ := h7 i (by omega)
   obtain ⟨x, hx, _, hxw⟩ := DataW.trod_int i0 k2
   obtain ⟨z, hz, _, hzw⟩ := DataW.trod_int i1 k3
   rw [(List.cons.inj hx).1] at k0
   rw [(List.cons.inj hz).1] at k1
   exact ⟨(x, z), k0, k1, hxw, hzw⟩
  obtain ⟨q, hq⟩ := choose_lt hV
  have hl : ((List.range len).map q).length = len := by simp
  have hg : ∀ (es : List Pr) (i : Nat) (u : Value), (prs es)[i]? = some u → ∃ p : Pr, es[i / 2]? = some p ∧ u = .int .i64 (if i % 2 = 0 then p.1 else p.2) := by
   intro es
   induction es with
   | nil => intro i u h; simp [prs] at h
   | cons e r ih =>
    intro i u h
    match i, h with
    | 0, h => simp [prs] at h; exact ⟨e, by simp, by simp [h]⟩
    | 1, h => simp [prs] at h; exact ⟨e, by simp, by simp [h]⟩
    | i + 2, h =>
     simp only [prs, List.getElem?_cons_succ] at h
     obtain ⟨p, hp, hu⟩ := ih i u h
     refine ⟨p, by rw [show (i + 2) / 2 = i / 2 + 1 by omega, List.getElem?_cons_succ]; exact hp, by rw [hu]; congr 1; rw [show (i + 2) % 2 = i % 2 by omega]⟩
  refine ⟨(List.range len).map q, ⟨some a, m, by rw [hl], fun j u hj => ⟨a, rfl, ?_⟩, by rw [hl]; omega, by omega, by rw [hl]; omega⟩, fun x hx => ?_⟩
  ·obtain ⟨p, hp, hu⟩ := hg _ _ _ hj
   have hj2 := (List.getElem?_eq_some_iff.1 hp).1
   simp only [hl] at hj2
   obtain ⟨g0, g1, _, _⟩ := hq (j / 2) hj2
   rw [List.getElem?_map, List.getElem?_range hj2] at hp
   simp only [Option.map_some, Option.some.injEq] at hp
   subst hp hu
   by_cases hm : j % 2 = 0
   ·rw [if_pos hm, ← g0]; congr 2; omega
   ·rw [if_neg hm, ← g1]; congr 2; omega
  ·simp only [List.mem_map, List.mem_range] at hx
   obtain ⟨i, hi, rfl⟩ := hx
   exact (hq i hi).2.2
theorem IE {t : TypeId} {fs : Array Field} {parts : List (DataW H)} (ht : P.underlying t = some (.struct fs)) (h : Light P t (.agg parts)) : ∀ n ∈ DataW.weightsEach P (fs.toList.map (·.type)) parts, n ≤ reachBytes := by
 intro n hn
 exact h n (by simp only [DataW.weights, ht]; exact hn)
theorem light_cons {t : TypeId} {ts : List TypeId} {d : DataW H} {r : List (DataW H)} (h : ∀ n ∈ DataW.weightsEach P (t :: ts) (d :: r), n ≤ reachBytes) : Light P t d ∧ ∀ n ∈ DataW.weightsEach P ts r, n ≤ reachBytes :=
 ⟨fun n hn => h n (by simp only [DataW.weightsEach, List.mem_append]; exact .inl hn), fun n hn => h n (by simp only [DataW.weightsEach, List.mem_append]; exact .inr hn)⟩
theorem light_all {ts : List TypeId} {ds : List (DataW H)} (h : (DataW.weightsEach P ts ds).all (· ≤ reachBytes) = true) : ∀ n ∈ DataW.weightsEach P ts ds, n ≤ reachBytes :=
 fun n hn => by simpa using List.all_eq_true.1 h n hn
theorem own_belowO {w w' : World} {L : List Chunk} (h : Own w [] w' L) : RowKit.Below w.heap.size w w' := ⟨h.os, h.tape, h.output, h.size, fun k hk => h.old k hk (by simp)⟩
end
end Go.Fl

namespace Go.Fl
open Go Go.Proofs Go.ChangeShapes Go.WideShapes Go.Deep Go.Joins
open Go.Proofs.YthjmapekjggdjaaGreatDoor.Rows
section
variable {H : Type} {enc : TypeId × Value → H} {W : World}
theorem bulk_mem {ds : List (DataW H)} {d : DataW H} (h : d ∈ ds) : uptoBulk d ≤ uptoBulkAll ds := by
 induction ds with
 | nil => cases h
 | cons a r ih =>
  rw [uptoBulkAll]
  rcases List.mem_cons.1 h with rfl | h
  ·omega
  ·have := ih h; omega
theorem bulk_pos (d : DataW H) : 1 ≤ uptoBulk d := by
 cases d with
 | lit l => cases l <;> simp [uptoBulk]
 | _ => simp [uptoBulk]
theorem K6 (ds : List (DataW H)) : ds.length ≤ uptoBulkAll ds := by
 induction ds with
 | nil => simp [uptoBulkAll]
 | cons a r ih => rw [uptoBulkAll, List.length_cons]; have := bulk_pos a; omega
theorem LP {n B : Nat} {v : Value} {y : DataW H × List MemPlace} (h : DataW.trod enc Tryz.prog W 0 (fun _ => true) true n 44 [v] = some y) (hb : uptoBulk y.1 ≤ B) (hB : B ≤ 1048576) : ∃ xs, SlV W v xs ∧ xs.length ≤ B := by
 rcases open_ints Tryz.underlying44 Tryz.underlying3 (by kernel_rfl) h with ⟨h1, h2⟩ | ⟨a, len, cap, zs, h1, h2, h3, h4, h5, h6, h7, h8⟩
 ·cases h1
  exact ⟨[], ⟨none, 0, rfl, fun j u hj => by simp [ints] at hj, Nat.le_refl _, by omega, by simp⟩, by simp⟩
 ·cases h1
  simp only [if_true] at h5
  subst h6
  have hl := K6 (lits (H := H) .i64 (zs.take len))
  have hlen : (zs.take len).length = len := by simp; omega
  have hll : (lits (H := H) .i64 (zs.take len)).length = len := by rw [← hlen]; simp [lits]
  rw [uptoBulk] at hb
  simp only [maxLen] at h4
  refine ⟨zs.take len, ⟨some a, cap, by rw [hlen], fun j u hj => ⟨a, rfl, ?_⟩, by omega, by omega, by omega⟩, by omega⟩
  have hj2 := (List.getElem?_eq_some_iff.1 hj).1
  simp only [ints_length, hlen] at hj2
  have h9 := h7 j (by omega)
  rw [h9, ← hj]
  simp [ints, List.getElem?_take, hj2, List.getElem?_eq_getElem (show j < zs.length by omega)]
theorem LO {n B : Nat} {v : Value} {y : DataW H × List MemPlace} (h : DataW.trod enc Tryz.prog W 0 (fun _ => true) true n 25 [v] = some y) (hb : uptoBulk y.1 ≤ B) (hB : B ≤ 1048576) :
  ∃ ls, LsV W v ls ∧ ls.length ≤ B ∧ ∀ l, l ∈ ls → l.length ≤ B := by
 rcases open_slice Tryz.underlying25 h with ⟨h1, h2⟩ | ⟨a, len, cap, m, k, D, Pl, h1, h2, h3, h4, h5, h6, h7⟩
 ·cases h1
  exact ⟨[], ⟨none, 0, rfl, fun i l hi => by simp at hi, Nat.le_refl _, by omega, by simp⟩, by simp, by simp⟩
 ·cases h1
  simp only [if_true] at h5
  subst h5 h6
  simp only [maxLen] at h4
  rw [uptoBulk] at hb
  have hl := K6 ((List.range len).map D)
  rw [List.length_map, List.length_range] at hl
  have hce : Tryz.prog.cellsOf 44 = 1 := by kernel_rfl
  have hV : ∀ i, i < len → ∃ q : Value × List Int, W.cell? (a.add i) = some q.1 ∧ SlV W q.1 q.2 ∧ q.2.length ≤ B := by
   intro i hi
   obtain ⟨cs', k1, k2⟩ := h7 i (by omega)
   rw [hce, Nat.mul_one] at k1
   obtain ⟨_, hlen, hcell⟩ := World.cells?_some k1
   match cs', hlen with
   | [u], _ =>
    have hD : uptoBulk (D i) ≤ B := by
     have := bulk_mem (ds := (List.range len).map D) (d := D i) (List.mem_map.2 ⟨i, List.mem_range.2 hi, rfl⟩)
     omega
    obtain ⟨xs, hx, hxl⟩ := LP (B := B) k2 hD hB
    have h0 := hcell 0 (by omega)
    refine ⟨(u, xs), ?_, hx, hxl⟩
    have e : (a.add i).add 0 = a.add i := by simp [Addr.add]
    rw [e] at h0
    simpa using h0
  obtain ⟨q, hq⟩ := choose_lt hV
  refine ⟨(List.range len).map fun i => (q i).2, ⟨some a, m, by simp, fun i l hi => ?_, by simp; omega, by omega, by simp; omega⟩, by simp; omega, fun l hl => ?_⟩
  ·have hi2 := (List.getElem?_eq_some_iff.1 hi).1
   simp only [List.length_map, List.length_range] at hi2
   rw [List.getElem?_map, List.getElem?_range hi2] at hi
   simp only [Option.map_some, Option.some.injEq] at hi
   subst hi
   exact ⟨a, (q i).1, rfl, (hq i hi2).1, (hq i hi2).2.1⟩
  ·simp only [List.mem_map, List.mem_range] at hl
   obtain ⟨i, hi, rfl⟩ := hl
   exact (hq i hi).2.2
theorem Gp {n : Nat} {v : Value} {y : DataW H × List MemPlace} (h : DataW.trod enc Tryz.prog W 0 (fun _ => true) true n 22 [v] = some y) (hw : Light Tryz.prog 22 y.1) : ∃ es, PrV W v es ∧ ∀ x ∈ es, (Lit.int .i64 x.1).wf = true ∧ (Lit.int .i64 x.2).wf = true :=
 open_pr Tryz.underlying22 Tryz.underlying43 (by kernel_rfl) rfl rfl (by kernel_rfl) (by kernel_rfl) Tryz.underlying3 Tryz.underlying3 (by kernel_rfl) h hw
theorem open_graphB {b : Nat} {v : Value} {d : DataW H} {p : List MemPlace} (hv : Value.okWide Tryz.prog W .any b 24 v) (h : DataW.Trod enc Tryz.prog W 0 (fun _ => true) true 24 v d p) (hw : Light Tryz.prog 24 d) :
  ∃ N va es, v = .agg #[.int .i64 N, va] ∧ PrV W va es ∧ (Lit.int .i64 N).wf = true ∧ ∀ x ∈ es, (Lit.int .i64 x.1).wf = true ∧ (Lit.int .i64 x.2).wf = true := by
 obtain ⟨v0, v1, y0, y1, n, rfl, rfl, rfl, h0, h1⟩ := open_agg2 Tryz.underlying24 (by kernel_rfl) (by kernel_rfl) hv h
 obtain ⟨_, w1⟩ := light_cons (IE Tryz.underlying24 hw)
 obtain ⟨w1, _⟩ := light_cons w1
 obtain ⟨N, hN, _, hNw⟩ := DataW.trod_int Tryz.underlying3 h0
 obtain ⟨es, hes, hew⟩ := Gp h1 w1
 exact ⟨N, v1, es, by rw [(List.cons.inj hN).1], hes, hNw, hew⟩
theorem open_cert {b : Nat} {v : Value} {d : DataW H} {p : List MemPlace} (hv : Value.okWide Tryz.prog W .any b 27 v) (h : DataW.Trod enc Tryz.prog W 0 (fun _ => true) true 27 v d p) (hw : Light Tryz.prog 27 d) (hb : uptoBulk d ≤ 1048576) :
  ∃ pl ls cs v1 v2, v = .agg #[.bool pl, v1, v2] ∧ LsV W v1 ls ∧ PrV W v2 cs ∧ ls.length ≤ 1048576 ∧ ∀ l, l ∈ ls → l.length ≤ 1048576 := by
 obtain ⟨v0, v1, v2, y0, y1, y2, n, rfl, rfl, rfl, h0, h1, h2⟩ := open_agg3 Tryz.underlying27 (by kernel_rfl) (by kernel_rfl) hv h
 obtain ⟨_, w1⟩ := light_cons (IE Tryz.underlying27 hw)
 obtain ⟨_, w2⟩ := light_cons w1
 obtain ⟨w2, _⟩ := light_cons w2
 have hb1 : uptoBulk y1.1 ≤ 1048576 := by
  rw [uptoBulk] at hb
  have := bulk_mem (ds := [y0.1, y1.1, y2.1]) (d := y1.1) (by simp)
  omega
 obtain ⟨pl, hp, _⟩ := DataW.trod_bool Tryz.underlying4 h0
 obtain ⟨ls, hls, h3, h4⟩ := LO h1 hb1 (Nat.le_refl _)
 obtain ⟨cs, hcs, _⟩ := Gp h2 w2
 exact ⟨pl, ls, cs, v1, v2, by rw [(List.cons.inj hp).1], hls, hcs, h3, h4⟩
theorem laidB : laidOutB Tryz.prog = true := by kernel_rfl
theorem staysB {t : TypeId} {v : Value} {d : DataW H} {p : List MemPlace} {W' : World} {L : List Chunk} (hr : Tryz.prog.readableRec t = true) (hrow : t < Tryz.prog.types.size) (h : DataW.Trod enc Tryz.prog W 0 (fun _ => true) true t v d p)
  (hO : Own W [] W' L) (hlt : ∀ x ∈ p, x.block < W.heap.size) : DataW.Trod enc Tryz.prog W' 0 (fun b => decide (b < W.heap.size)) true t v d p :=
 RowKit.Below.trod laidB hr hrow h (own_belowO hO) hlt
end
/-- What the rows list of package-level variables. -/
def laid3 : List (String × DataW Unit) := [("math/bits.deBruijn32tab", laid_math_bits_deBruijn32tab), ("math/bits.deBruijn64tab", laid_math_bits_deBruijn64tab), ("internal/strconv.uint64pow10", laid_internal_strconv_uint64pow10)]
theorem pow_of {W : World} (h : laidMetH Tryz.prog laid3 W) : Pow W := by
 rw [MakeChecks.laidMetH_plain _ _ _ (by kernel_rfl)] at h
 obtain ⟨g, t, cs, fuel, p, hg, ht, hvar, hd⟩ := Lib.laidMet.reads h (n := "internal/strconv.uint64pow10") (d := laid_internal_strconv_uint64pow10) (by simp [laid3])
 obtain rfl := Option.some.inj ((show Tryz.prog.globalNamed "internal/strconv.uint64pow10" = some 1 by kernel_rfl).symm.trans hg)
 obtain rfl := Option.some.inj ((show (Tryz.prog.globals[1]?).map (·.type) = some 265 by kernel_rfl).symm.trans ht)
 unfold Pow Lib.TabIs
 rw [hvar, ← Lib.cells_of_tab (zs := Lib.pow10Tab) Tryz.underlying265 Tryz.underlying221 (by kernel_rfl) (by kernel_rfl) hd]
end Go.Fl

namespace Go.Fl
open Go
section
variable {H : Type} {enc : TypeId × Value → H}
theorem returnsInHanded_of_cond_laid {a : Assume} {C : Checked} {os : Os} {f : FuncId} {fn : Func} {s : OpenSpec} {k : (H : Type) → List (DataW H) → Bool} (hk : s.cond = some k) {F : Stop.Interp} {conds : List PathCond} {apart fresh handsOn again : Bool} {X : World → Prop}
  (hX : ∀ w w' : World, w.heap = w'.heap → X w → X w')
  (own : ownKnob C.prog.godebug = none) (started : os.Started) (noInit : C.prog.inits.idxOf? f = none) (hfn : C.prog.funcs[f]? = some fn)
  (witness : ∃ (w : World) (tape : Tape) (i : Input), w.os = os ∧ (w.forCall tape i).Shaped C.prog ∧ i.vars = [] ∧ Input.okWide C.prog (w.forCall tape i) .any w.heap.size f i ∧
   ((s.pre enc C.prog fn conds apart (w.forCall tape i).memory i.args ∧ X (w.forCall tape i).memory) ∧ sizedMet enc C.prog fn s apart (w.forCall tape i).memory i.args) ∧ a.holds C.prog (lone (Frame.enter C.prog f i.args .normal) [] (w.forCall tape i)))
  (contract : ∀ (W : World) (base : Nat) (args : Array Value) (ds gs : List (DataW H)) (before : List MemPlace),
   (∀ (j : Nat) t v, fn.params[j]? = some t → args[j]? = some v → Value.okWide C.prog W .any base t v) →
   DataW.Whole enc C.prog fn.params.toList s.vars apart W args.toList ds gs before →
   k H (ds ++ gs) = true →
   (DataW.weightsEach C.prog (fn.params.toList ++ s.bare.plain.varTypes C.prog) (ds ++ gs)).all (· ≤ reachBytes) = true → X W →
   Calls C.prog f args W fun e W' => ∃ v, e = .returned v ∧ (s.at F).post enc C.prog fn apart fresh handsOn again W args v W') :
  ReturnsInHanded a C os f .any (fun w args => (s.pre enc C.prog fn conds apart w args ∧ X w) ∧ sizedMet enc C.prog fn s apart w args) ((s.at F).post enc C.prog fn apart fresh handsOn again) := by
 refine returnsInHanded_of_calls own started noInit witness ?_
 intro w tape i _ _ _ hok hpre hholds
 obtain ⟨_, _, _, fn', hfn', _, _, _, _, hval⟩ := hok
 have e : fn' = fn := Option.some.inj (hfn'.symm.trans hfn)
 subst e
 obtain ⟨ds, gs, before, hw, hc, hkk⟩ := (OpenSpec.pre_some hk conds apart _ _).1 hpre.1.1
 have hw' := DataW.Whole.of_heap (w' := w.forCall tape i) (by rfl) hw
 refine (contract (w.forCall tape i) w.heap.size i.args ds gs before hval hw' hkk (hpre.2.weights hw) (hX _ _ (by rfl) hpre.1.2)).mono fun e W' ⟨v, he, hp⟩ => ?_
 subst he
 exact ChangeSpec.post_blind hp
theorem witness_laid {C : Checked} {os : Os} {f : FuncId} {fn : Func} {s : OpenSpec} {k : (H : Type) → List (DataW H) → Bool} (hk : s.cond = some k) {conds : List PathCond} {apart : Bool} {X : World → Prop} (modest : Bool) (w0 : World) (args : Array Value) (fuel : Nat) (hos : w0.os = os)
  (hsh : (w0.forCall (fun _ _ => 0) ⟨#[], args, []⟩).Shaped C.prog)
  (hok : Input.okWideB C.prog (w0.forCall (fun _ _ => 0) ⟨#[], args, []⟩) f ⟨#[], args, []⟩ = true)
  {x : List (DataW H) × List (DataW H) × List MemPlace} (hx : DataW.whole enc C.prog (w0.forCall (fun _ _ => 0) ⟨#[], args, []⟩).memory fn.params.toList s.vars apart args.toList fuel = some x)
  (hconds : conds.all (PathCond.test C.prog ⟨fn.params.toList, x.1, s.bare.plain.varTypes C.prog, x.2.1⟩) = true) (hkk : k H (x.1 ++ x.2.1) = true)
  (hsz : s.bare.sizedB enc C.prog fn apart (w0.forCall (fun _ _ => 0) ⟨#[], args, []⟩).memory args fuel = true)
  (hX : X (w0.forCall (fun _ _ => 0) ⟨#[], args, []⟩).memory) :
  ∃ (w : World) (tape : Tape) (i : Input), w.os = os ∧ (w.forCall tape i).Shaped C.prog ∧ i.vars = [] ∧ Input.okWide C.prog (w.forCall tape i) .any w.heap.size f i ∧
   ((s.pre enc C.prog fn conds apart (w.forCall tape i).memory i.args ∧ X (w.forCall tape i).memory) ∧ sizedMet enc C.prog fn s apart (w.forCall tape i).memory i.args) ∧ ({ modest := modest } : Assume).holds C.prog (lone (Frame.enter C.prog f i.args .normal) [] (w.forCall tape i)) :=
 ⟨w0, fun _ _ => 0, ⟨#[], args, []⟩, hos, hsh, (Input.okWide_of_okWideB (base := 0) hok).1, (Input.okWide_of_okWideB hok).2,
  ⟨⟨(OpenSpec.pre_some hk conds apart _ _).2 ⟨x.1, x.2.1, x.2.2, DataW.Whole_of_whole hx, hconds, hkk⟩, hX⟩, sizedMet_of_sizedB hsz⟩, by
  simp only [Assume.holds]
  exact ⟨by simp, by simp, fun _ => Modest.zero, by simp, by simp⟩⟩
end
end Go.Fl

namespace Go.Proofs.YthjmapekjggdjaaGreatDoor.checkOwn
open Go.ChangeShapes Go.WideShapes Go.ChangeAt Go.RowKit
theorem own : ownKnob Tryz.prog.godebug = none := by kernel_rfl
theorem door_met (os : Os) (args : Array Value) : laidMetH Tryz.prog Fl.laid3 ((World.doorLaid Tryz.prog 400 os).forCall (fun _ _ => 0) ⟨#[], args, []⟩).memory :=
  laidMetH_of_parts3 (fuel := 8) (laidMet_of_run' 8 (by kernel_rfl) (by kernel_rfl)) (by kernel_rfl) (by kernel_rfl)
theorem lifted (os : Os) (started : os.Started) (H : Type) (enc : TypeId × Value → H) (F : Stop.Interp) :
    ReturnsInHanded {} Tryz.checked os 5 .any (fun w args => ((Rows.OpenSpec.upto Rows.checkOwnSpec).pre enc Tryz.prog Tryz.f5 [] false w args ∧ laidMetH Tryz.prog Fl.laid3 w) ∧ sizedMet enc Tryz.prog Tryz.f5 (Rows.OpenSpec.upto Rows.checkOwnSpec) false w args)
      (((Rows.OpenSpec.upto Rows.checkOwnSpec).at F).post enc Tryz.prog Tryz.f5 false true false false) := by
  refine Fl.returnsInHanded_of_cond_laid (C := Tryz.checked) (s := Rows.OpenSpec.upto Rows.checkOwnSpec) (k := Rows.uptoSmall) rfl (X := fun w => laidMetH Tryz.prog Fl.laid3 w) (fun _ _ hh h => h.of_heap hh) own started (by kernel_rfl) Tryz.func5
    (Fl.witness_laid (enc := enc) (C := Tryz.checked) (os := os) (s := Rows.OpenSpec.upto Rows.checkOwnSpec) (k := Rows.uptoSmall) rfl (X := fun w => laidMetH Tryz.prog Fl.laid3 w) false (World.doorLaid Tryz.prog 400 os) #[.agg #[.int .i64 0, .slice none 0 0], .agg #[.bool false, .slice none 0 0, .slice none 0 0]] 8 rfl
      (World.shaped_of_RefB (by kernel_rfl) (by kernel_rfl)) (by kernel_rfl) (x := ([.agg [.lit (.int .i64 0), .nil], .agg [.lit (.bool false), .nil, .nil]], [], [])) (by kernel_rfl) (by kernel_rfl) (by kernel_rfl) (by kernel_rfl) (door_met os _)) ?_
  intro W base args ds gs before hval0 hW hbulk hsz0 hL
  have hsz : (DataW.weightsEach Tryz.prog (Tryz.f5.params.toList ++ (Rows.OpenSpec.upto Rows.checkOwnSpec).bare.plain.varTypes Tryz.prog) (ds ++ gs)).all (· ≤ reachBytes) = true := hsz0
  have hval : ∀ (j : Nat) t v, Tryz.f5.params[j]? = some t → args[j]? = some v → Value.okWide Tryz.prog W .any base t v := hval0
  have hp := Fl.pow_of hL
  have hW' := hW
  obtain ⟨p, q, hA0, hV, rfl, hfz, hnd⟩ := hW
  have hA : DataW.TrodAll enc Tryz.prog W 0 (fun _ => true) true Tryz.f5.params.toList args.toList ds p := hA0
  rw [Tryz.params5] at hA hval hsz
  obtain ⟨v0, v1, d0, d1, p0, p1, rfl, rfl, rfl, t0, t1⟩ := trodAll_two hA
  obtain ⟨rfl, rfl⟩ := trodVars_none hV
  clear hA0 hval0 hsz0
  have hbk : Rows.uptoBulkAll [d0, d1] ≤ 1048576 := by simpa [Rows.uptoSmall] using hbulk
  have lt0 : ∀ x ∈ p0, x.block < W.heap.size := fun x hx => by simpa using hW'.lt x (by simp [hx])
  have lt1 : ∀ x ∈ p1, x.block < W.heap.size := fun x hx => by simpa using hW'.lt x (by simp [hx])
  have hli := Fl.light_all hsz
  obtain ⟨w0, hli⟩ := Fl.light_cons hli
  have b0 : Rows.uptoBulk d0 ≤ 1048576 := Nat.le_trans (Fl.bulk_mem (by simp)) hbk
  obtain ⟨N0, va0, es0, rfl, hg0, hN0, hE0⟩ := Fl.open_graphB (hval 0 _ _ rfl rfl) t0 w0
  obtain ⟨w1, hli⟩ := Fl.light_cons hli
  have b1 : Rows.uptoBulk d1 ≤ 1048576 := Nat.le_trans (Fl.bulk_mem (by simp)) hbk
  obtain ⟨pl1, ls1, cs1, x1, y1, rfl, hv1, hu1, hn1, hs1⟩ := Fl.open_cert (hval 1 _ _ rfl rfl) t1 w1 b1
  refine Calls.mono (Fl.LOwn_calls hg0 hv1 hu1 hp (by omega) (fun l hl => by have := hs1 l hl; omega)) ?_
  rintro _ W' ⟨v, L, rfl, rfl, hO⟩
  exact ⟨_, rfl, _, _, _, [], _, [], hW', trodAll_mk1 (shut_bool Tryz.underlying4 _), trodAll_mk2 (Fl.staysB (by kernel_rfl) (of_decide_eq_true (by kernel_rfl)) t0 hO lt0) (Fl.staysB (by kernel_rfl) (of_decide_eq_true (by kernel_rfl)) t1 hO lt1), rfl, (Fl.own_belowO hO).frame _, fun h => by cases h⟩
theorem row_holds : Rows.checkOwnUptoRow.holds Tryz.pinned (Rows.OpenSpec.upto Rows.checkOwnSpec) :=
  OpenClaim.holds_of_cond 5 Tryz.f5 rfl rfl rfl rfl rfl rfl rfl ⟨rfl, rfl, rfl, rfl, rfl⟩ rfl rfl rfl rfl rfl (by kernel_rfl) Tryz.func5 (by kernel_rfl)
    (of_decide_eq_true (by kernel_rfl)) (by unfold Func.isWrapper; first | (rw [if_pos (by decide +kernel)]; kernel_rfl) | (rw [if_neg (by decide +kernel)]; exact ⟨rfl, rfl⟩))
    (fun os started H enc _ F => lifted os started H enc F)
theorem over : Claim7.holds Tryz.pinned (.plain (Rows.OpenSpec.upto Rows.checkOwnSpec)) Rows.checkOwnUptoCard :=
  Claim7.holds_tied_plain_at .later [] [.data, .data, .data] true (true, "3987e0c40a2bbd31317015edf0e6dfd52ea27bfe98bff0270e2e7a2b6bdbf781") true
    row_holds (fun _ h => by cases h) (by kernel_rfl) (fun _ h => by cases h) checkOwnUpto_row_tie rfl ⟨rfl, rfl⟩ (by kernel_rfl) rfl
    (fun f fn hf hfn => by
      obtain rfl : f = 5 := Option.some.inj ((show Tryz.prog.funcNamed "tangram/tangramlaw18.CheckOwn" = some 5 by kernel_rfl).symm.trans hf) |>.symm
      obtain rfl : fn = Tryz.f5 := (Option.some.inj (Tryz.func5.symm.trans hfn)).symm
      exact ⟨by kernel_rfl, fun j t ht => by
        rw [Tryz.params5] at ht
        match j, ht with
        | 0, ht => obtain rfl : t = 24 := by simpa using ht.symm
                   exact (show Tryz.prog.wantsStandIn 24 = false by kernel_rfl)
        | 1, ht => obtain rfl : t = 27 := by simpa using ht.symm
                   exact (show Tryz.prog.wantsStandIn 27 = false by kernel_rfl)
        | j + 2, ht => simp at ht⟩)
    (by kernel_rfl)
end Go.Proofs.YthjmapekjggdjaaGreatDoor.checkOwn
namespace Go.Proofs.YthjmapekjggdjaaGreatDoor
theorem checkOwn_holds : Rows.CheckOwnUptoCardSaid := checkOwn.over
#print axioms checkOwn_holds
end Go.Proofs.YthjmapekjggdjaaGreatDoor
