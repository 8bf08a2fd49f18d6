/- The last part: The law CheckBytes: whatever the input: true, and the input reads as it did; the three tables of the library that it lists are tied to the text of the program. -/
import Derived.Test.YthjmapekjggdjaaGreatDoorZC5
set_option linter.unusedVariables false
set_option linter.unusedSimpArgs false
set_option linter.unusedSectionVars false
set_option maxRecDepth 100000
namespace Go.Fl
open Go Go.Proofs
theorem Ho {es : List Pr} {ls rs : List (List Int)} {k : Nat} (hR : RotR es ls rs) (hs : ∀ l, l ∈ ls → l.length ≤ k) : ∀ r, r ∈ rs → r.length ≤ k := by
 intro r hr
 obtain ⟨i, hi⟩ := TF.1 hr
 obtain ⟨l, hl⟩ : ∃ l, ls[i]? = some l := ⟨_, Tz (by have := (TA.1 hi).1; have := hR.1; omega)⟩
 have h3 := (hR.2 i l _ hl hi).1
 have h4 := hs l (TD hl)
 omega
theorem O3 {N : Int} {es : List Pr} {ls : List (List Int)} {va v : Value} {w : World} (hg : PrV w va es) (hl : LsV w v ls) (hn : ls.length ≤ 1000000000) (hs : ∀ l, l ∈ ls → l.length ≤ 1000000000) :
  Calls Tryz.prog 32 #[.agg #[.int .i64 N, va], v] w (Ret w [] fun r M => ∃ A k c x e ck rs, r = .tuple #[.slice A k c, .int .i64 x, .int .i64 e] ∧ (e = 0 ↔ RotOk N es ls) ∧ M = [ck] ∧ (RotOk N es ls → LstC ck (.slice A k c) rs ∧ RotR es ls rs)) := by
 refine Calls.mono (KQ hg hl hs) ?_
 rintro e w' ⟨r, L', rfl, ⟨hok, v, rs, rfl, rfl, hR⟩ | ⟨hno, x, e, rfl, he⟩, hO⟩
 ·obtain ⟨A, len, cap, rfl, hl, _⟩ := BW hO
  refine ⟨_, [pk (slc (.slice A len cap) 44 1 (rowsV rs) :: rowsC 3 rs)], rfl, ⟨A, len, cap, 0, 0, _, rs.map Prod.snd, rfl, by simp [hok], rfl, fun _ => ⟨?_, hR⟩⟩, Gi (by simpa using hO)⟩
  intro w0 K w L i hw hi
  have h2 := (D2 i hi hw).sub (List.sublist_append_left _ _)
  have hlen := hR.1
  rw [List.length_map] at hlen
  refine JO (F := []) (by simpa using h2) (by omega) (fun p hp => ?_)
  have := Ho hR hs _ (List.mem_map_of_mem (f := Prod.snd) hp)
  omega
 exact ⟨_, [pk []], rfl, ⟨none, 0, 0, x, e, _, [], rfl, by simp [hno, he], rfl, fun h => absurd h hno⟩, Gi (by simpa using hO.sub (TH _))⟩
structure G18I where
 i : Nat
theorem Hp {N : Int} {pl : Bool} {es cs : List Pr} {ls : List (List Int)} {va v u : Value} {w : World} (hg : PrV w va es) (hv : LsV w v ls) (hu : PrV w u cs) (hn : ls.length ≤ 1000000000) (hs : ∀ l, l ∈ ls → l.length ≤ 33554432) (hsm : ListsOk ls → (ls.map lineB).flatten.length ≤ 1048576 * 44040193) :
  Calls Tryz.prog 13 #[.agg #[.int .i64 N, va], .agg #[.bool pl, v, u]] w (Ret w [] fun r M => M = [] ∧ r = .int .i64 (chkF N es pl ls cs)) := by
 have hs9 : ∀ l, l ∈ ls → l.length ≤ 1000000000 := fun l hl => by have := hs l hl; omega
 have hg0 := hg
 have hv0 := hv
 have hu0 := hu
 obtain ⟨A, cap, rfl, hr, hlc, hcm, hle⟩ := hg
 obtain ⟨Av, capv, rfl, _⟩ := hv
 obtain ⟨Au, capu, rfl, hru, hlu, hcu, hleu⟩ := hu
 refine Ao (K := []) (args := [_, _]) (L := []) Tryz.func13 rfl Tryz.ntmps13 rfl (Own.start _ _) ?_
 refine Zs ?_
 refine Zw (Ba rfl rfl rfl) fun g2 => ?_
 refine Zw (Ba rfl rfl rfl) fun g3 => ?_
 refine Za ?_
 refine Zx <| Zs ?_
 refine Zu (Ay (vs := [_, _]) rfl rfl Bn Bg rfl (Ak rfl)) ?_
 refine Seq.rel0 rfl rfl (Ar MC rfl rfl rfl (fun w hw => B2 (hg0.keep0 hw))) ?_
 rintro _ ⟨b1, rfl, hb1⟩
 refine Za ?_
 refine Zx <| DC.seq <| Zs ?_
 refine Zm ?_
 refine Zo (Bd rfl rfl) ?_
 refine Zx ?_
 refine Zd (fun c2 => ?_) fun c2 => ?_
 ·have hx : chkF N es pl ls cs = 1 := by
   unfold chkF
   rw [if_pos (fun h => by rw [hb1.2 h] at c2; simp at c2)]
  refine Zs ?_
  refine Za ?_
  refine Zx <| DC.ret <| Aa ?_
  refine Fin.weak (E' := [(4, _)]) (L' := []) ⟨rfl, trivial⟩ .nil ?_
  refine Zh ?_
  exact ⟨rfl, by rw [hx]⟩
 have hV : Vld N es := hb1.1 (by simpa using c2)
 obtain ⟨n, rfl⟩ : ∃ n : Nat, N = n := ⟨N.toNat, by have := hV.lo; omega⟩
 refine DC.skip <| Fin.then <| Zs ?_
 refine Zu (Ay (vs := [_, _, _]) rfl rfl CD BV rfl (Ak rfl)) ?_
 refine Seq.rel0 rfl rfl (Ar en31 rfl rfl rfl (fun w hw => Hs (hv0.keep0 hw) (hu0.keep0 hw) hs hsm)) ?_
 rintro _ ⟨s4, e4, rfl, he4⟩
 refine Zm ?_
 iterate 2 refine Ze ?_
 iterate 2 refine Za ?_
 refine Zx <| DC.seq <| Zs ?_
 refine Zm ?_
 refine Zo (BK rfl rfl rfl) ?_
 refine Zx ?_
 refine Zd (fun c5 => ?_) fun c5 => ?_
 ·have hx : chkF n es pl ls cs = 181 := by
   unfold chkF
   rw [if_neg (not_not_intro hV), if_pos (fun h => by rw [he4.2 h] at c5; simp at c5)]
  refine Zs ?_
  refine Za ?_
  refine Zx <| DC.ret <| Aa ?_
  refine Fin.weak (E' := [(4, _)]) (L' := []) ⟨rfl, trivial⟩ .nil ?_
  refine Zh ?_
  exact ⟨rfl, by rw [hx]⟩
 have hT : TextOk pl ls cs := he4.1 (by simpa using c5)
 refine DC.skip <| Fin.then <| DC.seq <| Zs ?_
 refine Zf CU ?_
 refine Zl II ?_
 refine Zx ?_
 refine Zd (fun c7 => ?_) fun c7 => ?_
 ·have hpl : pl = true := by simpa using c7
  refine Zs ?_
  refine Zu (Ay (vs := [_, _]) rfl rfl Bn Bg rfl (Ak rfl)) ?_
  refine Zf CT ?_
  refine Zl Ek ?_
  refine Seq.rel rfl rfl (Ar en32 rfl rfl rfl (fun w hw => O3 (hg0.keep0 hw) (hv0.keep0 hw) hn hs9)) ?_
  rintro _ _ ⟨A8, k8, c8, x8, e8, ck, rs, rfl, he8, rfl, hck⟩
  refine Zm ?_
  iterate 3 refine Ze ?_
  iterate 3 refine Za ?_
  refine Zx <| DC.seq <| DC.seq ?_
  simp only [zs]
  refine DC.region ?_
  refine Zm ?_
  refine Zo (BK rfl rfl rfl) ?_
  refine Zx ?_
  refine Zd (fun c9 => ?_) fun c9 => ?_
  ·have hx : chkF n es pl ls cs = 182 := by
    unfold chkF
    rw [if_neg (not_not_intro hV), if_neg (not_not_intro hT), if_pos hpl, if_pos (fun h => by rw [he8.2 h] at c9; simp at c9)]
   refine Zs ?_
   refine Za ?_
   refine Zx <| DC.ret <| Aa <| Aa ?_
   refine Fin.weak (E' := [(4, _)]) (L' := []) ⟨rfl, trivial⟩ .nil ?_
   refine Zh ?_
   exact ⟨rfl, by rw [hx]⟩
  have hok : RotOk n es ls := he8.1 (by simpa using c9)
  obtain ⟨hck, hR⟩ := hck hok
  refine DC.skip <| Fin.then <| Zs ?_
  refine Zu (Ay (vs := [_, _]) rfl rfl Bn Bg rfl (Ak rfl)) ?_
  refine Zm ?_
  refine Seq.rel0 rfl rfl (Ar en26 rfl rfl rfl (fun w hw => F0 (D := fun r => ∃ b f, r = .bool b ∧ NxOk rs rs.length f ∧ (b = true ↔ genus2 n es f = 0)) (Iw (hg0.keep0 hw) (hck _ _ _ _ 0 hw rfl) (Ho hR hs9) (GV hok hR)))) ?_
  rintro _ ⟨b11, f11, rfl, hnx, hb11⟩
  refine Za ?_
  refine Zx <| DC.seq <| DC.seq ?_
  have hfl : b11 = true ↔ FlatP n es ls := Ja hok ⟨rs, f11, hR, hnx, hb11⟩
  refine DC.region ?_
  refine Zm ?_
  refine Zo (Bd rfl rfl) ?_
  refine Zx ?_
  refine Zd (fun c12 => ?_) fun c12 => ?_
  ·have hx : chkF n es pl ls cs = 183 := by
    unfold chkF
    rw [if_neg (not_not_intro hV), if_neg (not_not_intro hT), if_pos hpl, if_neg (not_not_intro hok), if_pos (fun h => by rw [TC] at h; rw [hfl.2 h] at c12; simp at c12)]
   refine Zs ?_
   refine Za ?_
   refine Zx <| DC.ret <| Aa <| Aa ?_
   refine Fin.weak (E' := [(4, _)]) (L' := []) ⟨rfl, trivial⟩ .nil ?_
   refine Zh ?_
   exact ⟨rfl, by rw [hx]⟩
  have hx : chkF n es pl ls cs = 0 := by
   unfold chkF
   rw [if_neg (not_not_intro hV), if_neg (not_not_intro hT), if_pos hpl, if_neg (not_not_intro hok), if_neg (not_not_intro (by rw [TC]; exact hfl.1 (by simpa using c12)))]
  refine DC.skip <| Fin.then <| Zs ?_
  refine Za ?_
  refine Zx <| DC.ret <| Aa ?_
  refine Fin.weak (E' := [(4, _)]) (L' := []) ⟨rfl, trivial⟩ .nil ?_
  refine Zh ?_
  exact ⟨rfl, by rw [hx]⟩
 have hpl : pl = false := by simpa using c7
 refine DC.skip <| Fin.then <| DC.seq <| Zs ?_
 refine Za ?_
 refine Zx <| DC.block ?_
 have hE : EdgesOk cs := by
  have := hT.1
  rw [hpl] at this
  exact this.2
 refine DC.loop (ι := G18I) (fun q => q.i ≤ cs.length ∧ ∀ c, c ∈ cs.take q.i → c ∈ es) (fun q => [(2, .pointer (some ⟨g2, 0, none⟩)), (3, .pointer (some ⟨g3, 0, none⟩)), (12, .int .i64 (q.i : Nat))])
  (fun _ => [blk g3 27 #[.bool pl, .slice Av ls.length capv, .slice Au cs.length capu], blk g2 24 #[.int .i64 n, .slice A es.length cap]]) (fun q => cs.length - q.i) ⟨0⟩ ⟨Nat.zero_le _, by simp⟩ ⟨rfl, rfl, rfl, trivial⟩ (.cons 0 rfl (.cons 0 rfl .nil)) ?_
 rintro ⟨i⟩ ⟨hi, hin⟩
 dsimp only at hi hin ⊢
 refine DC.seq <| Zs ?_
 refine Zm ?_
 refine Zf Cr ?_
 refine Zl Bu ?_
 refine Zn TU ?_
 refine Zc ?_
 refine Zx ?_
 refine Zd (fun c16 => ?_) fun c16 => ?_
 ·have hic : i < cs.length := by simpa using c16
  obtain ⟨x, hx⟩ : ∃ x, cs[i]? = some x := ⟨_, Tz hic⟩
  obtain ⟨ad, rfl, cx, cy⟩ := hru.pair hx
  refine DC.skip <| Fin.then <| DC.seq <| DC.block <| DC.seq ?_
  refine AF (cl := [.v, .q, .v, .q, .q, .v, .r, .q]) (A := [0, 0, 2, 0, 14, 30, 63, 127]) (order := [0, 1, 2, 3, 4, 5, 6, 7]) [] mixed (by kernel_rfl) (fun w hw => hw.pick .nil) ?_
  refine Am rfl rfl rfl rfl (Ay (vs := [_, _]) rfl rfl Bn Bg rfl (Ak rfl)) ?_
  refine Yf Cr ?_
  refine Yl Bu ?_
  refine Ym ?_
  refine Yo rfl (AM (ad' := ad.add (i * 2)) rfl rfl rfl TU AY (by omega) (by omega) rfl) ?_
  refine Am rfl rfl rfl rfl (Ay (vs := [_, _]) rfl rfl B3 AY rfl (Cv cx cy (by simp))) ?_
  refine Flow.rel0 rfl rfl rfl rfl (Ar en33 rfl rfl rfl (fun w hw => JD (hg0.keep0 hw) hV)) ?_
  rintro _ ⟨k18, rfl, hk18⟩
  refine Yo rfl (AR rfl rfl) ?_
  refine Flow.end rfl ?_
  simp only [zq, zr]
  refine Fin.then <| Zs ?_
  refine Zm ?_
  refine Zc ?_
  refine Zx ?_
  refine Zd (fun c19 => ?_) fun c19 => ?_
  ·have hx : chkF n es pl ls cs = 184 := by
    unfold chkF
    rw [if_neg (not_not_intro hV), if_neg (not_not_intro hT), if_neg (by rw [hpl]; decide), if_pos (fun h => by have := hk18.2 (h x (TD hx)); simp at c19; omega)]
   refine Zs ?_
   refine Za ?_
   refine Zx <| DC.ret <| Ae <| Aa <| Aa <| Ae <| Aa ?_
   refine Fin.weak (E' := [(4, _)]) (L' := []) ⟨rfl, trivial⟩ .nil ?_
   refine Zh ?_
   exact ⟨rfl, by rw [hx]⟩
  have hxin : x ∈ es := hk18.1 (by simp at c19; omega)
  refine DC.skip <| Fin.inBlock <| Fin.then <| DC.region ?_
  refine Zm ?_
  refine Zp ?_
  refine Za ?_
  refine Seq.nil ?_
  refine Ag ⟨i + 1⟩ (by dsimp only; omega) ⟨by dsimp only; omega, ?_⟩ ⟨rfl, rfl, rfl, trivial⟩ (.cons 0 rfl (.cons 0 rfl .nil))
  dsimp only
  intro c hc
  rw [List.take_add_one, hx, List.mem_append] at hc
  rcases hc with hc | hc
  ·exact hin c hc
  simp at hc; subst hc; exact hxin
 refine DC.exit <| Ad <| Ad <| Ah <| Fin.then <| DC.seq ?_
 have hic : i = cs.length := by simp at c16; omega
 subst hic
 rw [List.take_length] at hin
 have hVc : Vld n cs := Jp hV hE hin
 refine DC.region ?_
 refine Zf BI ?_
 refine Zl AJ ?_
 refine Zf Cr ?_
 refine Zl Bu ?_
 refine Zo (AA (cs := #[_, _]) rfl rfl F4 rfl rfl) ?_
 refine Seq.rel0 rfl rfl (Ar en34 rfl rfl rfl (fun w hw => Fg (hu0.keep0 hw) hVc)) ?_
 rintro _ ⟨kd, A9, l9, c9, A9', l9', c9', b9, rfl, hb9⟩
 refine Zm ?_
 iterate 3 refine Ze ?_
 refine Zw (AD rfl Jn rfl) fun g14 => ?_
 refine Zy (At (cs' := #[_, _, _]) rfl rfl rfl Cm rfl (TB rfl) rfl) ?_
 iterate 2 refine Za ?_
 refine Zx <| DC.seq <| Zs ?_
 refine Zm ?_
 refine Zo (Bd rfl rfl) ?_
 refine Zx ?_
 refine Zd (fun c22 => ?_) fun c22 => ?_
 ·have hx : chkF n es pl ls cs = 185 := by
   unfold chkF
   rw [if_neg (not_not_intro hV), if_neg (not_not_intro hT), if_neg (by rw [hpl]; decide), if_neg (not_not_intro hin), if_pos (fun h => by rw [TC] at h; rw [hb9.2 h] at c22; simp at c22)]
  refine Zs ?_
  refine Za ?_
  refine Zx <| DC.ret <| Aa ?_
  refine Fin.weak (E' := [(4, _)]) (L' := []) ⟨rfl, trivial⟩ .nil ?_
  refine Zh ?_
  exact ⟨rfl, by rw [hx]⟩
 have hx : chkF n es pl ls cs = 0 := by
  unfold chkF
  rw [if_neg (not_not_intro hV), if_neg (not_not_intro hT), if_neg (by rw [hpl]; decide), if_neg (not_not_intro hin), if_neg (not_not_intro (by rw [TC]; exact hb9.1 (by simpa using c22)))]
 refine DC.skip <| Fin.then <| Zs ?_
 refine Za ?_
 refine Zx <| DC.ret ?_
 refine Fin.weak (E' := [(4, _)]) (L' := []) ⟨rfl, trivial⟩ .nil ?_
 refine Zh ?_
 exact ⟨rfl, by rw [hx]⟩
open Classical
theorem ByV.src2 {w0 w : World} {L : List Chunk} {v : Value} {bs : List UInt8} (h : ByV w0 v bs) : Src w0 [] L v bs.length (byc bs) := by
 obtain ⟨A, cap, rfl, hr, _, _⟩ := h
 refine Jx (m := 1) hr (by simp) (by simp) (fun hA => ?_)
 subst hA
 cases bs with
 | nil => rfl
 | cons e r => obtain ⟨ad, e', _⟩ := hr.byte (i := 0) (x := e) rfl; cases e'
theorem LBytes_calls {vb vc : Value} {bs cs : List UInt8} {w : World} (hB : ByV w vb bs) (hC : ByV w vc cs) (hp : Pow w) (hbl : bs.length ≤ 140737488355327) (hcl : cs.length ≤ 140737488355327) :
  Calls Tryz.prog 6 #[vb, vc] w (Ret w [] fun r M => r = .bool true) := by
 refine Ao (K := []) (args := [_, _]) (L := []) Tryz.func6 rfl Tryz.ntmps6 rfl (Own.start _ _) ?_
 refine Zs ?_
 refine Za ?_
 refine Zx <| DC.seq <| Zs ?_
 refine Seq.rel0 rfl rfl (Ar en9 rfl rfl rfl (fun w hw => Kr (hp.keep0 hw))) ?_
 rintro _ rfl
 refine Zo (Bd rfl rfl) ?_
 refine Zx ?_
 refine Zd (fun c1 => ?_) fun c1 => ?_
 ·simp at c1
 refine DC.skip <| Fin.then <| Zs ?_
 refine Zw (AP (cs := #[]) rfl rfl TV Dw Et rfl (by decide) (by decide) rfl rfl) fun g13 => ?_
 refine Zm ?_
 refine Seq.rel rfl rfl (Df rfl rfl rfl TV Dw Kf Et rfl (by decide) (by decide) (ByV.src2 (w := w) hB) (by simp) (by omega)) ?_
 rintro _ _ ⟨⟨A15, l15, c15, rfl⟩, rfl⟩
 simp only [zs]
 refine Seq.own (fun w hw => EX (by decide) hw) ?_
 refine Zw (AP (cs := #[]) rfl rfl TV Dw Et rfl (by decide) (by decide) rfl rfl) fun g16 => ?_
 refine Zm ?_
 refine Seq.rel rfl rfl (Df rfl rfl rfl TV Dw Kf Et rfl (by decide) (by decide) (ByV.src2 (w := w) hC) (by simp) (by omega)) ?_
 rintro _ _ ⟨⟨A18, l18, c18, rfl⟩, rfl⟩
 simp only [zs]
 refine Seq.own (fun w hw => EX (by decide) hw) ?_
 refine Seq.rel0 rfl rfl (Ar RW rfl rfl rfl (fun w hw => F1 (E2 hw 1 rfl) (E2 hw 0 rfl) (hp.keep0 hw))) ?_
 rintro _ ⟨e5, rfl, he5⟩
 refine Za ?_
 refine Seq.nil ?_
 refine Fin.weak (E' := [(0, vb), (1, vc), (5, .int .i64 e5)]) ⟨rfl, rfl, rfl, trivial⟩ (L' := []) .nil ?_
 refine Fin.then <| DC.seq <| Zs ?_
 refine Zw (AP (cs := #[]) rfl rfl TV Dw Et rfl (by decide) (by decide) rfl rfl) fun g20 => ?_
 refine Zm ?_
 refine Seq.rel rfl rfl (Df rfl rfl rfl TV Dw Kf Et rfl (by decide) (by decide) (ByV.src2 (w := w) hB) (by simp) (by omega)) ?_
 rintro _ _ ⟨⟨A22, l22, c22, rfl⟩, rfl⟩
 simp only [zs]
 refine Seq.own (fun w hw => EX (by decide) hw) ?_
 refine Zw (AP (cs := #[]) rfl rfl TV Dw Et rfl (by decide) (by decide) rfl rfl) fun g23 => ?_
 refine Zm ?_
 refine Seq.rel rfl rfl (Df rfl rfl rfl TV Dw Kf Et rfl (by decide) (by decide) (ByV.src2 (w := w) hC) (by simp) (by omega)) ?_
 rintro _ _ ⟨⟨A25, l25, c25, rfl⟩, rfl⟩
 simp only [zs]
 refine Seq.own (fun w hw => EX (by decide) hw) ?_
 refine Seq.rel0 rfl rfl (Ar en20 rfl rfl rfl (fun w hw => Ih (E2 hw 1 rfl) (E2 hw 0 rfl) (hp.keep0 hw))) ?_
 rintro _ ⟨e6, rfl, he6⟩
 obtain rfl := he5.uniq he6
 refine Zm ?_
 refine Zo (AN rfl rfl rfl) ?_
 refine Zo (QF rfl rfl rfl Tryz.underlying4) ?_
 refine Seq.nil ?_
 refine Fin.weak (E' := [(0, vb), (1, vc), (5, .int .i64 e5), (29, _)]) ⟨rfl, rfl, rfl, rfl, trivial⟩ (L' := []) .nil ?_
 refine Fin.then ?_
 refine Zd (fun c4 => ?_) fun c4 => ?_
 ·simp at c4
 refine DC.skip <| Fin.then <| Zs ?_
 refine Zw (AP (cs := #[]) rfl rfl TV Dw Et rfl (by decide) (by decide) rfl rfl) fun g31 => ?_
 refine Zm ?_
 refine Seq.rel rfl rfl (Df rfl rfl rfl TV Dw Kf Et rfl (by decide) (by decide) (ByV.src2 (w := w) hB) (by simp) (by omega)) ?_
 rintro _ _ ⟨⟨A33, l33, c33, rfl⟩, rfl⟩
 simp only [zs]
 refine Seq.own (fun w hw => EX (by decide) hw) ?_
 refine Seq.rel rfl rfl (Ar RV rfl rfl rfl (fun w hw => GA (E2 hw 0 rfl))) ?_
 rintro _ _ ⟨N, A, l, c, code, at', es, rfl, rfl, hok, hbad⟩
 simp only [zs]
 refine Zm ?_
 iterate 2 refine Ze ?_
 refine Zw (AD rfl GM rfl) fun g6 => ?_
 refine Zw (AD rfl Iq rfl) fun g7 => ?_
 refine Zy (At (cs' := #[_, _]) rfl rfl rfl Bg rfl (TB rfl) rfl) ?_
 refine Zy (At (cs' := #[_, _]) rfl rfl rfl B1 rfl (TB rfl) rfl) ?_
 refine Zx <| DC.seq <| Zs ?_
 refine Zf Gw ?_
 refine Zl F6 ?_
 refine Zo (BK rfl rfl rfl) ?_
 refine Zx ?_
 refine Zd (fun c7 => ?_) fun c7 => ?_
 ·have hx : e5 = 180 := by
   rcases he5 with ⟨_, h⟩ | ⟨N', es', h, _⟩
   ·exact h
   exact absurd h (hbad (by simpa using c7) _ _)
  refine Zs ?_
  refine Zm ?_
  refine Zo (AN rfl rfl rfl) ?_
  refine Za ?_
  refine Zx <| DC.ret <| Aa ?_
  refine Fin.weak (E' := [(4, _)]) (L' := []) ⟨rfl, trivial⟩ .nil ?_
  refine Zh ?_
  simp [hx]
 have hr : ReadR bs N es := hok (by simpa using c7)
 have hfew := hr.few
 have hse : (certA cs = none ∧ e5 = 181) ∨ ∃ pl ls c, certA cs = some (pl, ls, c) ∧ e5 = chkF N es pl ls c := by
  rcases he5 with ⟨h, _⟩ | ⟨N', es', h, h2⟩
  ·exact absurd hr (h _ _)
  obtain ⟨rfl, rfl⟩ := hr.uniq h
  exact h2
 refine DC.skip <| Fin.then <| Zs ?_
 refine Zw (AP (cs := #[]) rfl rfl TV Dw Et rfl (by decide) (by decide) rfl rfl) fun g43 => ?_
 refine Zm ?_
 refine Seq.rel rfl rfl (Df rfl rfl rfl TV Dw Kf Et rfl (by decide) (by decide) (ByV.src2 (w := w) hC) (by simp) (by omega)) ?_
 rintro _ _ ⟨⟨A45, l45, c45, rfl⟩, rfl⟩
 simp only [zs]
 refine Seq.own (fun w hw => EX (by decide) hw) ?_
 refine Seq.rel rfl rfl (Ar SI rfl rfl rfl (fun w hw => GL (E2 hw 0 rfl))) ?_
 rintro _ _ ⟨pl, Av, lv, cv, Au, lu, cu, x, e, ck, ls, ces, rfl, rfl, hyes, hno⟩
 simp only [zs]
 refine Zm ?_
 iterate 3 refine Ze ?_
 refine Zw (AD rfl NK rfl) fun g8 => ?_
 refine Zy (At (cs' := #[_, _, _]) rfl rfl rfl BV rfl (TB rfl) rfl) ?_
 iterate 2 refine Za ?_
 refine Zx <| DC.seq <| Zs ?_
 refine Zm ?_
 refine Zo (BK rfl rfl rfl) ?_
 refine Zx ?_
 refine Zd (fun c10 => ?_) fun c10 => ?_
 ·have hx : e5 = 181 := by
   have hn := hno (by simpa using c10)
   rcases hse with ⟨_, h⟩ | ⟨pl', ls', c', h, _⟩
   ·exact h
   rw [hn] at h; cases h
  refine Zs ?_
  refine Zm ?_
  refine Zo (AN rfl rfl rfl) ?_
  refine Za ?_
  refine Zx <| DC.ret <| Aa ?_
  refine Fin.weak (E' := [(4, _)]) (L' := []) ⟨rfl, trivial⟩ .nil ?_
  refine Zh ?_
  simp [hx]
 obtain ⟨hcs, hck, hll, hls⟩ := hyes (by simpa using c10)
 have hx : e5 = chkF N es pl ls ces := by
  rcases hse with ⟨h, _⟩ | ⟨pl', ls', c', h, h2⟩
  ·rw [hcs] at h; cases h
  rw [hcs] at h; cases h; exact h2
 refine DC.skip <| Fin.then <| Zs ?_
 refine Zm ?_
 refine Zu (Ay (vs := [_, _]) rfl rfl Bn Bg rfl (Ak rfl)) ?_
 refine Zu (Ay (vs := [_, _, _]) rfl rfl CD BV rfl (Ak rfl)) ?_
 refine Seq.rel0 rfl rfl (Ar en13 rfl rfl rfl (fun w hw => Hp (CX hw 5 rfl (by omega)) (hck _ _ _ _ 1 hw rfl).1 (hck _ _ _ _ 1 hw rfl).2 (by omega) (fun l hl => Nat.le_trans (Kz hl) (Gx hcs)) (Rz (Gx hcs)))) ?_
 rintro _ rfl
 refine Zo (AN rfl rfl rfl) ?_
 refine Za ?_
 refine Zx <| DC.ret ?_
 refine Fin.weak (E' := [(4, _)]) (L' := []) ⟨rfl, trivial⟩ .nil ?_
 refine Zh ?_
 simp [hx]
end Go.Fl

namespace Go.Fl
open Go Go.ChangeShapes Go.WideShapes Go.Deep
section
variable {H : Type} {enc : TypeId × Value → H} {P : Program} {W : World} {held : Bool}
def Light (P : Program) (t : TypeId) (d : DataW H) : Prop := ∀ n ∈ d.weights P t, n ≤ reachBytes
theorem light_cons {t : TypeId} {ts : List TypeId} {d : DataW H} {r : List (DataW H)} (h : ∀ n ∈ DataW.weightsEach P (t :: ts) (d :: r), n ≤ reachBytes) : Light P t d ∧ ∀ n ∈ DataW.weightsEach P ts r, n ≤ reachBytes :=
 ⟨fun n hn => h n (by simp only [DataW.weightsEach, List.mem_append]; exact .inl hn), fun n hn => h n (by simp only [DataW.weightsEach, List.mem_append]; exact .inr hn)⟩
theorem light_all {ts : List TypeId} {ds : List (DataW H)} (h : (DataW.weightsEach P ts ds).all (· ≤ reachBytes) = true) : ∀ n ∈ DataW.weightsEach P ts ds, n ≤ reachBytes :=
 fun n hn => by simpa using List.all_eq_true.1 h n hn
theorem own_belowO {w w' : World} {L : List Chunk} (h : Own w [] w' L) : RowKit.Below w.heap.size w w' := ⟨h.os, h.tape, h.output, h.size, fun k hk => h.old k hk (by simp)⟩
end
end Go.Fl

namespace Go.Fl
open Go Go.Proofs Go.ChangeShapes Go.WideShapes Go.Deep Go.Joins
open Go.Proofs.YthjmapekjggdjaaGreatDoor.Rows
section
variable {H : Type} {enc : TypeId × Value → H} {W : World}
theorem Sp : laidOutB Tryz.prog = true := by kernel_rfl
theorem staysB {t : TypeId} {v : Value} {d : DataW H} {p : List MemPlace} {W' : World} {L : List Chunk} (hr : Tryz.prog.readableRec t = true) (hrow : t < Tryz.prog.types.size) (h : DataW.Trod enc Tryz.prog W 0 (fun _ => true) true t v d p)
  (hO : Own W [] W' L) (hlt : ∀ x ∈ p, x.block < W.heap.size) : DataW.Trod enc Tryz.prog W' 0 (fun b => decide (b < W.heap.size)) true t v d p :=
 RowKit.Below.trod Sp hr hrow h (own_belowO hO) hlt
end
/-- What the rows list of package-level variables. -/
def laid3 : List (String × DataW Unit) := [("math/bits.deBruijn32tab", laid_math_bits_deBruijn32tab), ("math/bits.deBruijn64tab", laid_math_bits_deBruijn64tab), ("internal/strconv.uint64pow10", laid_internal_strconv_uint64pow10)]
theorem pow_of {W : World} (h : laidMetH Tryz.prog laid3 W) : Pow W := by
 rw [MakeChecks.laidMetH_plain _ _ _ (by kernel_rfl)] at h
 obtain ⟨g, t, cs, fuel, p, hg, ht, hvar, hd⟩ := Lib.laidMet.reads h (n := "internal/strconv.uint64pow10") (d := laid_internal_strconv_uint64pow10) (by simp [laid3])
 obtain rfl := Option.some.inj ((show Tryz.prog.globalNamed "internal/strconv.uint64pow10" = some 1 by kernel_rfl).symm.trans hg)
 obtain rfl := Option.some.inj ((show (Tryz.prog.globals[1]?).map (·.type) = some 265 by kernel_rfl).symm.trans ht)
 unfold Pow Lib.TabIs
 rw [hvar, ← Lib.cells_of_tab (zs := Lib.pow10Tab) Tryz.underlying265 Tryz.underlying221 (by kernel_rfl) (by kernel_rfl) hd]
end Go.Fl

namespace Go.Fl
open Go Go.Proofs Go.ChangeShapes Go.WideShapes Go.Deep Go.Joins
open Go.Proofs.YthjmapekjggdjaaGreatDoor.Rows
section
variable {H : Type} {enc : TypeId × Value → H} {W : World}
theorem RZ {zs : List Int} (h : ∀ z, z ∈ zs → (Lit.int .u8 z).wf = true) : ∃ bs : List UInt8, bs.length = zs.length ∧ byc bs = zs.map (Value.int .u8) := by
 induction zs with
 | nil => exact ⟨[], rfl, rfl⟩
 | cons z r ih =>
  obtain ⟨bs, h1, h2⟩ := ih fun x hx => h x (by simp [hx])
  have hz := h z (by simp)
  have hz' : 0 ≤ z ∧ z ≤ 255 := by
   have e1 : IntKind.min .u8 = 0 := by decide
   have e2 : IntKind.max .u8 = 255 := by decide
   simp only [Lit.wf, e1, e2, Bool.and_eq_true, decide_eq_true_eq] at hz
   exact hz
  refine ⟨UInt8.ofNat z.toNat :: bs, by simp [h1], ?_⟩
  have e : (UInt8.ofNat z.toNat).toNat = z.toNat := UInt8.toNat_ofNat_of_lt (by show z.toNat < 256; omega)
  simp only [byc, Lib.byteCells, List.map_cons] at h2 ⊢
  rw [h2, e]
  congr 2
  omega
end
end Go.Fl

namespace Go.Fl
open Go Go.Proofs Go.ChangeShapes Go.WideShapes Go.Deep Go.Joins
open Go.Proofs.YthjmapekjggdjaaGreatDoor.Rows
section
variable {H : Type} {enc : TypeId × Value → H} {W : World}
theorem open_bytesP {b : Nat} {v : Value} {d : DataW H} {p : List MemPlace} (hv : Value.okWide Tryz.prog W .any b 47 v) (h : DataW.Trod enc Tryz.prog W 0 (fun _ => true) true 47 v d p) (hw : Light Tryz.prog 47 d) :
  ∃ bs, ByV W v bs ∧ bs.length ≤ 140737488351232 := by
 obtain ⟨A, len, cap, rfl⟩ := okWide_slice TV hv
 obtain ⟨n, hn⟩ := h
 rcases open_ints (x := (d, p)) TV Tryz.underlying5 (by kernel_rfl) hn with ⟨h1, h2⟩ | ⟨a, len, cap, zs, h1, h2, h3, h4, h5, h6, h7, h8⟩
 ·cases h1
  exact ⟨[], ⟨none, 0, rfl, fun j u hj => by simp [byc, Lib.byteCells] at hj, Nat.le_refl _, by omega⟩, by simp⟩
 cases h1
 simp only [if_true] at h5
 cases h6
 have hwt : (len + (zs.drop len).length) * 1 ≤ reachBytes := hw _ (by simp [DataW.weights, TV, show Tryz.prog.bytesOf 5 = 1 by kernel_rfl, lits]; try omega)
 have hr : reachBytes = 140737488351232 := by decide
 have hlen : (zs.take len).length = len := by simp; omega
 simp only [maxLen] at h4
 obtain ⟨bs, hb1, hb2⟩ := RZ (zs := zs.take len) fun z hz => h8 z (List.mem_of_mem_take hz)
 have hbl : bs.length = len := hb1.trans hlen
 refine ⟨bs, ⟨some a, cap, by rw [hbl], fun j u hj => ⟨a, rfl, ?_⟩, by omega, by omega⟩, by omega⟩
 rw [hb2] at hj
 have hj2 := (TA.1 hj).1
 simp only [List.length_map, hlen] at hj2
 have h9 := h7 j (by omega)
 rw [h9, ← hj]
 simp [List.getElem?_take, hj2, Tz (show j < zs.length by omega)]
theorem witness_plain {C : Checked} {os : Os} {f : FuncId} {fn : Func} {s : ChangeSpec} {conds : List PathCond} {apart : Bool} {X : World → Array Value → Prop} (modest : Bool) (w0 : World) (args : Array Value) (fuel : Nat) (hos : w0.os = os)
  (hsh : (w0.forCall (fun _ _ => 0) ⟨#[], args, []⟩).Shaped C.prog)
  (hok : Input.okWideB C.prog (w0.forCall (fun _ _ => 0) ⟨#[], args, []⟩) f ⟨#[], args, []⟩ = true)
  (hpre : s.preB enc C.prog fn conds apart (w0.forCall (fun _ _ => 0) ⟨#[], args, []⟩).memory args fuel = true)
  (hsz : s.sizedB enc C.prog fn apart (w0.forCall (fun _ _ => 0) ⟨#[], args, []⟩).memory args fuel = true)
  (hx : X (w0.forCall (fun _ _ => 0) ⟨#[], args, []⟩).memory args) :
  ∃ (w : World) (tape : Tape) (i : Input), w.os = os ∧ (w.forCall tape i).Shaped C.prog ∧ i.vars = [] ∧ Input.okWide C.prog (w.forCall tape i) .any w.heap.size f i ∧
   ((s.pre enc C.prog fn conds apart (w.forCall tape i).memory i.args ∧ X (w.forCall tape i).memory i.args) ∧ sizedMet enc C.prog fn (OpenSpec.ofChange s) apart (w.forCall tape i).memory i.args) ∧ ({ modest := modest } : Assume).holds C.prog (lone (Frame.enter C.prog f i.args .normal) [] (w.forCall tape i)) :=
 ⟨w0, fun _ _ => 0, ⟨#[], args, []⟩, hos, hsh, (Input.okWide_of_okWideB (base := 0) hok).1, (Input.okWide_of_okWideB hok).2, ⟨⟨ChangeSpec.pre_of_preB hpre, hx⟩, sizedMet_of_sizedB hsz⟩, by
  simp only [Assume.holds]
  exact ⟨by simp, by simp, fun _ => Modest.zero, by simp, by simp⟩⟩
end
end Go.Fl

namespace Go.Proofs.YthjmapekjggdjaaGreatDoor.checkBytes
open Go.ChangeShapes Go.WideShapes Go.ChangeAt Go.RowKit
theorem own : ownKnob Tryz.prog.godebug = none := by kernel_rfl
theorem door_met (os : Os) (args : Array Value) : laidMetH Tryz.prog Fl.laid3 ((World.doorLaid Tryz.prog 400 os).forCall (fun _ _ => 0) ⟨#[], args, []⟩).memory :=
  laidMetH_of_parts3 (fuel := 8) (laidMet_of_run' 8 (by kernel_rfl) (by kernel_rfl)) (by kernel_rfl) (by kernel_rfl)
theorem lifted (os : Os) (started : os.Started) (H : Type) (enc : TypeId × Value → H) :
    ReturnsInHanded {} Tryz.checked os 6 .any (fun w args => (Rows.checkBytesSpec.pre enc Tryz.prog Tryz.f6 [] false w args ∧ laidMetH Tryz.prog Fl.laid3 w) ∧ sizedMet enc Tryz.prog Tryz.f6 (OpenSpec.ofChange Rows.checkBytesSpec) false w args)
      (Rows.checkBytesSpec.post enc Tryz.prog Tryz.f6 false true false false) := by
  refine returnsInHanded_of_change_and (C := Tryz.checked) (X := fun w _ => laidMetH Tryz.prog Fl.laid3 w) (fun _ _ _ hh h => h.of_heap hh) own started (by kernel_rfl) Tryz.func6
    (Fl.witness_plain (enc := enc) (C := Tryz.checked) (os := os) (X := fun w _ => laidMetH Tryz.prog Fl.laid3 w) false (World.doorLaid Tryz.prog 400 os) #[.slice none 0 0, .slice none 0 0] 8 rfl
      (World.shaped_of_RefB (by kernel_rfl) (by kernel_rfl)) (by kernel_rfl) (by kernel_rfl) (by kernel_rfl) (door_met os _)) ?_
  intro W base args ds gs before hval0 hW _ hsz0 hL _
  have hsz : (DataW.weightsEach Tryz.prog (Tryz.f6.params.toList ++ Rows.checkBytesSpec.plain.varTypes Tryz.prog) (ds ++ gs)).all (· ≤ reachBytes) = true := hsz0
  have hval : ∀ (j : Nat) t v, Tryz.f6.params[j]? = some t → args[j]? = some v → Value.okWide Tryz.prog W .any base t v := hval0
  have hp := Fl.pow_of hL
  have hW' := hW
  obtain ⟨p, q, hA0, hV, rfl, hfz, hnd⟩ := hW
  have hA : DataW.TrodAll enc Tryz.prog W 0 (fun _ => true) true Tryz.f6.params.toList args.toList ds p := hA0
  rw [Tryz.params6] at hA hval hsz
  obtain ⟨v0, v1, d0, d1, p0, p1, rfl, rfl, rfl, t0, t1⟩ := trodAll_two hA
  obtain ⟨rfl, rfl⟩ := trodVars_none hV
  clear hA0 hval0 hsz0
  have lt0 : ∀ x ∈ p0, x.block < W.heap.size := fun x hx => by simpa using hW'.lt x (by simp [hx])
  have lt1 : ∀ x ∈ p1, x.block < W.heap.size := fun x hx => by simpa using hW'.lt x (by simp [hx])
  have hli := Fl.light_all hsz
  obtain ⟨w0, hli⟩ := Fl.light_cons hli
  obtain ⟨bs0, hb0, hl0⟩ := Fl.open_bytesP (hval 0 _ _ rfl rfl) t0 w0
  obtain ⟨w1, hli⟩ := Fl.light_cons hli
  obtain ⟨bs1, hb1, hl1⟩ := Fl.open_bytesP (hval 1 _ _ rfl rfl) t1 w1
  refine Calls.mono (Fl.LBytes_calls hb0 hb1 hp (by omega) (by omega)) ?_
  rintro _ W' ⟨v, L, rfl, rfl, hO⟩
  exact ⟨_, rfl, _, _, _, [], _, [], hW', trodAll_mk1 (shut_bool Tryz.underlying4 _), trodAll_mk2 (Fl.staysB (by kernel_rfl) (of_decide_eq_true (by kernel_rfl)) t0 hO lt0) (Fl.staysB (by kernel_rfl) (of_decide_eq_true (by kernel_rfl)) t1 hO lt1), rfl, (Fl.own_belowO hO).frame _, fun h => by cases h⟩
theorem row_holds : Rows.CheckBytesSaid :=
  OpenClaim.holds_of_wide 6 Tryz.f6 rfl rfl rfl rfl rfl rfl rfl ⟨rfl, rfl, rfl, rfl, rfl⟩ rfl rfl rfl rfl rfl (by kernel_rfl) Tryz.func6 (by kernel_rfl)
    (of_decide_eq_true (by kernel_rfl)) (by unfold Func.isWrapper; first | (rw [if_pos (by decide +kernel)]; kernel_rfl) | (rw [if_neg (by decide +kernel)]; exact ⟨rfl, rfl⟩))
    (fun os started H enc _ => lifted os started H enc)
theorem over : Claim7.holds Tryz.pinned (.plain (OpenSpec.ofChange Rows.checkBytesSpec)) Rows.checkBytesCard :=
  Claim7.holds_tied_plain_at .later [] [.data, .data, .data] true (true, "3987e0c40a2bbd31317015edf0e6dfd52ea27bfe98bff0270e2e7a2b6bdbf781") true
    row_holds (fun _ h => by cases h) (by kernel_rfl) (fun _ h => by cases h) checkBytes_row_tie rfl ⟨rfl, rfl⟩ (by kernel_rfl) rfl
    (fun f fn hf hfn => by
      obtain rfl : f = 6 := Option.some.inj ((show Tryz.prog.funcNamed "tangram/tangramlaw18.CheckBytes" = some 6 by kernel_rfl).symm.trans hf) |>.symm
      obtain rfl : fn = Tryz.f6 := (Option.some.inj (Tryz.func6.symm.trans hfn)).symm
      exact ⟨by kernel_rfl, fun j t ht => by
        rw [Tryz.params6] at ht
        match j, ht with
        | 0, ht => obtain rfl : t = 47 := by simpa using ht.symm
                   exact (show Tryz.prog.wantsStandIn 47 = false by kernel_rfl)
        | 1, ht => obtain rfl : t = 47 := by simpa using ht.symm
                   exact (show Tryz.prog.wantsStandIn 47 = false by kernel_rfl)
        | j + 2, ht => simp at ht⟩)
    (by kernel_rfl)
end Go.Proofs.YthjmapekjggdjaaGreatDoor.checkBytes
namespace Go.Proofs.YthjmapekjggdjaaGreatDoor
theorem checkBytes_holds : Rows.CheckBytesCardSaid := checkBytes.over
#print axioms checkBytes_holds
end Go.Proofs.YthjmapekjggdjaaGreatDoor
