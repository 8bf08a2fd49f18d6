/- Part 4 of the proof: the library of the walk and the walks, in build order; no condition. -/
import Derived.Test.YthjmapekjggdjaaGreatDoorZT3
set_option linter.unusedVariables false
set_option linter.unusedSimpArgs false
set_option linter.unusedSectionVars false
set_option maxRecDepth 100000
namespace Go.Fl
open Go Go.Proofs
theorem G0 {v e : Int} {x y z : Value} {ga gb gc : Nat} {w : World} (hO : Own w [ga, gb, gc] w [blk ga 131 #[x], blk gb 3 #[y], blk gc 29 #[z]]) :
  CallsD Tryz.prog 105 #[.pointer (some ⟨ga, 0, none⟩), .pointer (some ⟨gb, 0, none⟩), .pointer (some ⟨gc, 0, none⟩)] (.panicking (onePanic (sflt v e))) w
   fun e' u' w' => u' = .panicking [{ v := sflt v e, recovered := true }] ∧ Ret w [ga, gb, gc] (fun r M => M = [blk ga 131 #[.slice none 0 0], blk gb 3 #[.int .i64 v], blk gc 29 #[.int .i64 e]]) e' w' := by
 refine DD (args := [_, _, _]) Tryz.func105 rfl Tryz.ntmps105 rfl rfl rfl rfl rfl rfl rfl rfl (.some _ []) hO ?_
 refine Zs ?_
 refine Zm ?_
 refine Zo (Lp (b := true) rfl rfl rfl (fun w => by kernel_rfl)) ?_
 refine Zx ?_
 refine AG rfl ?_
 refine Zs ?_
 refine Zm ?_
 refine Zo (CA (v := .tuple #[.agg #[.int .i64 v, .int .i64 e], .bool true]) rfl rfl (fun w => by kernel_rfl)) ?_
 refine Zm ?_
 iterate 2 refine Ze ?_
 refine Zw (Ay rfl PQ rfl) fun g4 => ?_
 refine Zy (Ah (cs' := #[_, _]) rfl rfl rfl P2 rfl (Ra rfl) rfl) ?_
 refine Za ?_
 refine Zx <| DC.seq <| Zs ?_
 refine Zm ?_
 refine Zo (Bb rfl rfl) ?_
 refine Zx ?_
 refine Ba rfl ?_
 refine DC.skip <| Fin.then ?_
 refine AC (cl := [.q, .q, .q, .q, .g, .g, .g]) (A := [0, 1, 0, 4, 0, 19, 63]) (order := [0, 1, 2, 3, 4, 5, 6]) ([blk g4 172 #[.int .i64 v, .int .i64 e]]) mixed (by kernel_rfl) (fun w hw => hw.pick (.cons 0 rfl .nil)) ?_
 refine Yf OP ?_
 refine Flow.old rfl rfl rfl (Ak rfl rfl AJ (Bt rfl)) ?_
 refine Yf OO ?_
 refine Flow.old rfl rfl rfl (Ak rfl rfl Fq (Bt rfl)) ?_
 refine AD rfl rfl rfl rfl (AB (cs' := #[_]) rfl rfl rfl MT rfl (Ra rfl) rfl) (fun w hw => hw.pick (.cons 0 rfl .nil)) ?_
 refine AD rfl rfl rfl rfl (AB (cs' := #[_]) rfl rfl rfl AN rfl (Ra rfl) rfl) (fun w hw => hw.pick (.cons 0 rfl .nil)) ?_
 refine AD rfl rfl rfl rfl (AB (cs' := #[_]) rfl rfl rfl On rfl (Ra rfl) rfl) (fun w hw => hw.pick (.cons 0 rfl .nil)) ?_
 refine Flow.end rfl ?_
 simp only [zq, zr]
 refine Fin.weak (E' := []) trivial (.cons 1 rfl (.cons 1 rfl (.cons 1 rfl .nil))) ?_
 refine BL (.inr rfl) rfl ?_
 rfl
theorem G1 {x y z : Value} {ga gb gc : Nat} {w : World} (hO : Own w [ga, gb, gc] w [blk ga 131 #[x], blk gb 3 #[y], blk gc 29 #[z]]) :
  CallsD Tryz.prog 105 #[.pointer (some ⟨ga, 0, none⟩), .pointer (some ⟨gb, 0, none⟩), .pointer (some ⟨gc, 0, none⟩)] .returning w
   fun e' u' w' => u' = .returning ∧ Ret w [ga, gb, gc] (fun r M => M = [blk ga 131 #[x], blk gb 3 #[y], blk gc 29 #[z]]) e' w' := by
 refine DD (args := [_, _, _]) Tryz.func105 rfl Tryz.ntmps105 rfl rfl rfl rfl rfl rfl rfl rfl .none hO ?_
 refine Zs ?_
 refine Zm ?_
 refine Zo (I5 (b := false) rfl rfl (fun w => by kernel_rfl)) ?_
 refine Zx ?_
 refine Ba rfl ?_
 refine DC.skip ?_
 refine BL (.inr rfl) rfl ?_
 rfl
theorem P6 {w0 w : World} {K : List Nat} {ga gb gc t t' t'' : Nat} {x y z : Array Value} {F : List Chunk} (h : Own w0 K w (blk ga t x :: blk gb t' y :: blk gc t'' z :: F)) : Own w [ga, gb, gc] w [blk ga t x, blk gb t' y, blk gc t'' z] :=
 (h.sub (L' := [blk ga t x, blk gb t' y, blk gc t'' z]) (by simp)).self
/-- What nums.Scan answers. -/
def ScanR (bs : List UInt8) (r : Value) (M : List Chunk) : Prop :=
 (∃ tk vt, scanA bs = .ok tk ∧ tk.length ≤ 33554433 ∧ r = .tuple #[vt, .int .i64 0, .int .i64 0] ∧ M = [slc vt 138 4 (tks tk)]) ∨
 (∃ a e, scanA bs = .bad a e ∧ r = .tuple #[.slice none 0 0, .int .i64 a, .int .i64 e] ∧ M = [])
theorem KX {vb : Value} {bs : List UInt8} {w : World} (hB : ByV w vb bs) :
  Calls Tryz.prog 72 #[vb] w (Ret w [] (ScanR bs)) := by
 have ho : ByO vb bs [] := fun _ _ _ _ _ h => by simp at h
 obtain ⟨A, cb, hvb⟩ := hB.len
 subst hvb
 refine HI (K := []) (args := [_]) (L := []) Tryz.func72 rfl Tryz.ntmps72 rfl (Own.start _ _) ?_
 refine Zs ?_
 refine Zw (Ay rfl PT rfl) fun g2 => ?_
 refine Zw (Ay rfl Cg rfl) fun g3 => ?_
 refine Zw (Ay rfl PM rfl) fun g4 => ?_
 refine Zx <| Zs ?_
 refine Zo (E9 rfl rfl rfl) ?_
 refine Seq.defer rfl rfl rfl rfl ?_
 refine Zx <| Zs ?_
 refine Zm ?_
 refine Zo (As (cs := #[_, _, _]) rfl rfl Q2 rfl rfl) ?_
 refine Zw (AX rfl rfl rfl) fun g9 => ?_
 refine Za ?_
 refine Zx <| DC.seq ?_
 refine DC.own (fun w hw => AU (t := 138) (m := 4) hw) ?_
 refine DC.region ?_
 refine Zm ?_
 refine Dc rfl rfl QW rfl rfl rfl (Lc := scL g9 (.slice A bs.length cb) (.slice none 0 0) 0 []) (F := [blk g4 29 #[.int .i64 0], blk g3 3 #[.int .i64 0], blk g2 131 #[.slice none 0 0]]) (.swap _ _ _) (fun k hk => hk) (fun w hw => Kf (hw.pick (L' := scL g9 (.slice A bs.length cb) (.slice none 0 0) 0 []) (.cons 1 rfl (.cons 0 rfl .nil))).self (hB.keep ho hw) (ByO.step hB ho (hw.pick (L' := scL g9 (.slice A bs.length cb) (.slice none 0 0) 0 []) (.cons 1 rfl (.cons 0 rfl .nil))))) ?_ ?_
 ·rintro pv M ⟨a, e, rfl, hsc⟩
  refine Aj <| ?_
  refine GW ?_
  refine Fin.leaves (f := 105) (cap := [.pointer (some ⟨g2, 0, none⟩), .pointer (some ⟨g3, 0, none⟩), .pointer (some ⟨g4, 0, none⟩)]) (Lc := [blk g2 131 #[.slice none 0 0], blk g3 3 #[.int .i64 0], blk g4 29 #[.int .i64 0]]) (F := M) Pb (by simp) rfl
   ((Rr (l₁ := M)).trans (List.Perm.append_right M (List.reverse_perm [blk g2 131 #[.slice none 0 0], blk g3 3 #[.int .i64 0], blk g4 29 #[.int .i64 0]]))) (fun k hk => by simpa [blk] using hk) (fun w' hw => G0 (P6 (hw.perm ((Rr (l₁ := M)).trans (List.Perm.append_right M (List.reverse_perm [blk g2 131 #[.slice none 0 0], blk g3 3 #[.int .i64 0], blk g4 29 #[.int .i64 0]]))).symm))) ?_
  rintro r L' rfl a' w' ha hw
  have e2 : a'.tmps.getD 2 undef = .pointer (some ⟨g2, 0, none⟩) := by have := ha.ev (x := .tmp 2) (v := .pointer (some ⟨g2, 0, none⟩)) rfl; simpa only [Act.eval] using this
  have e3 : a'.tmps.getD 3 undef = .pointer (some ⟨g3, 0, none⟩) := by have := ha.ev (x := .tmp 3) (v := .pointer (some ⟨g3, 0, none⟩)) rfl; simpa only [Act.eval] using this
  have e4 : a'.tmps.getD 4 undef = .pointer (some ⟨g4, 0, none⟩) := by have := ha.ev (x := .tmp 4) (v := .pointer (some ⟨g4, 0, none⟩)) rfl; simpa only [Act.eval] using this
  exact ⟨_, Hk rfl e2 e3 e4 (BU (hw.holds (blk g2 131 #[.slice none 0 0]) (by simp)) LS rfl) (BU (hw.holds (blk g3 3 #[.int .i64 a]) (by simp)) AJ rfl) (BU (hw.holds (blk g4 29 #[.int .i64 e]) (by simp)) Fq rfl),
   _, [], rfl, .inr ⟨a, e, hsc, rfl, rfl⟩, hw.sub (by simp)⟩
 rintro _ _ ⟨rfl, vt', j, tk', rfl, hsc, htl⟩
 unfold scL
 simp only [zs]
 refine Zx <| DC.seq ?_
 refine DC.shape 1 rfl ?_
 rintro ⟨A5, l5, c5, rfl⟩
 refine DC.region ?_
 refine Zm ?_
 refine Zo (AA rfl rfl) ?_
 refine Zf Ik ?_
 refine Zl LS ?_
 refine Zy (AB (cs' := #[_]) rfl rfl rfl MT rfl (Ra rfl) rfl) ?_
 refine Zy (AB (cs' := #[_]) rfl rfl rfl AN rfl (Ra rfl) rfl) ?_
 refine Zy (AB (cs' := #[_]) rfl rfl rfl On rfl (Ra rfl) rfl) ?_
 refine Zx <| DC.ret ?_
 refine J4 ?_
 refine Fin.leaves (f := 105) (cap := [.pointer (some ⟨g2, 0, none⟩), .pointer (some ⟨g3, 0, none⟩), .pointer (some ⟨g4, 0, none⟩)]) (Lc := [blk g2 131 #[.slice A5 l5 c5], blk g3 3 #[.int .i64 0], blk g4 29 #[.int .i64 0]]) (F := [slc (.slice A5 l5 c5) 138 4 (tks tk'), blk g9 176 #[.slice A bs.length cb, .int .i64 j, (.slice A5 l5 c5)]]) Pb (by simp) rfl
  (List.reverse_perm [blk g2 131 #[.slice A5 l5 c5], blk g3 3 #[.int .i64 0], blk g4 29 #[.int .i64 0], slc (.slice A5 l5 c5) 138 4 (tks tk'), blk g9 176 #[.slice A bs.length cb, .int .i64 j, (.slice A5 l5 c5)]]) (fun k hk => by simpa [blk] using hk) (fun w' hw => G1 (P6 (hw.perm (List.reverse_perm [blk g2 131 #[.slice A5 l5 c5], blk g3 3 #[.int .i64 0], blk g4 29 #[.int .i64 0], slc (.slice A5 l5 c5) 138 4 (tks tk'), blk g9 176 #[.slice A bs.length cb, .int .i64 j, .slice A5 l5 c5]]).symm))) ?_
 rintro r L' rfl a' w' ha hw
 have e2 : a'.tmps.getD 2 undef = .pointer (some ⟨g2, 0, none⟩) := by have := ha.ev (x := .tmp 2) (v := .pointer (some ⟨g2, 0, none⟩)) rfl; simpa only [Act.eval] using this
 have e3 : a'.tmps.getD 3 undef = .pointer (some ⟨g3, 0, none⟩) := by have := ha.ev (x := .tmp 3) (v := .pointer (some ⟨g3, 0, none⟩)) rfl; simpa only [Act.eval] using this
 have e4 : a'.tmps.getD 4 undef = .pointer (some ⟨g4, 0, none⟩) := by have := ha.ev (x := .tmp 4) (v := .pointer (some ⟨g4, 0, none⟩)) rfl; simpa only [Act.eval] using this
 exact ⟨_, Hk rfl e2 e3 e4 (BU (hw.holds (blk g2 131 #[.slice A5 l5 c5]) (by simp)) LS rfl) (BU (hw.holds (blk g3 3 #[.int .i64 0]) (by simp)) AJ rfl) (BU (hw.holds (blk g4 29 #[.int .i64 0]) (by simp)) Fq rfl),
  _, [slc (.slice A5 l5 c5) 138 4 (tks tk')], rfl, .inl ⟨tk', (.slice A5 l5 c5), hsc, htl, rfl, rfl⟩, hw.sub (by simp)⟩
def liL (gr : Nat) (vp : Value) (s : RdS) (vl : Value) (tk : List Tk) : List Chunk :=
 [blk gr 135 #[.int .i64 s.n, vp, .bool s.hd, .int .i64 s.m], slc vp 35 2 (prs s.ps), slc vl 138 4 (tks tk)]
def LineR (gr : Nat) (s : RdS) (vl : Value) (tk : List Tk) (r : Value) (M : List Chunk) : Prop :=
 (∃ s' vp', lineF s tk = .ok s' ∧ r = .agg #[.int .i64 0, .int .i64 0] ∧ M = liL gr vp' s' vl tk) ∨ (∃ c a, lineF s tk = .bad c a ∧ c ≠ 0 ∧ r = .agg #[.int .i64 c, .int .i64 a])
theorem I1 {gr : Nat} {vp vl : Value} {s : RdS} {tk : List Tk} {w : World} (hO : Own w (idsOf (liL gr vp s vl tk)) w (liL gr vp s vl tk)) (h0 : tk ≠ []) (hl : tk.length ≤ 100000000) (hp : s.ps.length ≤ 100000000) :
  Calls Tryz.prog 73 #[.pointer (some ⟨gr, 0, none⟩), vl] w (Ret w (idsOf (liL gr vp s vl tk)) (LineR gr s vl tk)) := by
 obtain ⟨A, cl, rfl, hR, hl1, hl2⟩ := HP hO 2 rfl
 obtain ⟨t, tr, rfl⟩ : ∃ t tr, tk = t :: tr := by cases tk with | nil => exact absurd rfl h0 | cons a b => exact ⟨a, b, rfl⟩
 obtain ⟨ad, rfl, _⟩ := hR.tk (i := 0) rfl
 obtain ⟨Ap, cp, rfl, _⟩ := BZ hO 1 rfl (by omega)
 refine Ao (args := [_, _]) Tryz.func73 rfl Tryz.ntmps73 rfl hO ?_
 unfold liL
 refine Zs ?_
 refine Zw (Ay rfl HL rfl) fun g4 => ?_
 refine Zx <| DC.seq <| Zs ?_
 refine Zm ?_
 refine Zo (AA rfl rfl) ?_
 refine Zf In ?_
 refine Zl MO ?_
 refine Zo (Bb rfl rfl) ?_
 refine Zx ?_
 refine Zd (fun c1 => ?_) fun c1 => ?_
 ·have hh : s.hd = false := by simpa using c1
  refine DC.seq <| DC.block <| Zs ?_
  refine Zm ?_
  refine Zn Rx ?_
  refine Zo (BQ rfl rfl rfl) ?_
  refine Za ?_
  refine Zx ?_
  refine Zd (fun c2 => ?_) fun c2 => ?_
  ·have hr : tr.length ≠ 1 := by simp at c2; omega
   refine Zs ?_
   refine Zm ?_
   refine Zo (AT (ad' := ad.add (0 * 4)) rfl rfl rfl Rx B0 (by omega) (by simp) rfl) ?_
   refine Zf Ec ?_
   refine Zu (Ak rfl rfl AJ (CS (i := 3) (j := 0) rfl rfl 1 rfl)) ?_
   refine Zo (As (cs := #[_, _]) rfl rfl EZ rfl rfl) ?_
   refine Zy (Ah (cs' := #[_, _]) rfl rfl rfl BH rfl (Ra rfl) rfl) ?_
   refine Zx <| DC.ret <| Ae <| Aa <| Aa ?_
   refine BT (cs := #[_, _]) (.inl rfl) rfl rfl Da BH ?_
   refine ⟨_, fun w hw => hw, .inr ⟨20, t.fr, ?_, by decide, rfl⟩⟩
   unfold lineF; simp only [hh, if_true]
   split
   ·simp at hr
   rfl
  have hr : tr.length = 1 := by simp at c2; omega
  obtain ⟨u, rfl⟩ := List.length_eq_one_iff.1 hr
  refine Zs ?_
  refine Zm ?_
  refine Zo (AT (ad' := ad.add (0 * 4)) rfl rfl rfl Rx B0 (by omega) (by simp) rfl) ?_
  refine Zf Dx ?_
  refine Zu (Ak rfl rfl AJ (CS (i := 3) (j := 0) rfl rfl 3 rfl)) ?_
  refine Zo (Bx rfl rfl rfl) ?_
  refine Za ?_
  refine Zx ?_
  refine Zd (fun c4 => ?_) fun c4 => ?_
  ·refine Zs ?_
   refine Zm ?_
   refine Zo (AT (ad' := ad.add (0 * 4)) rfl rfl rfl Rx B0 (by omega) (by simp) rfl) ?_
   refine Zf Ec ?_
   refine Zu (Ak rfl rfl AJ (CS (i := 3) (j := 0) rfl rfl 1 rfl)) ?_
   refine Zo (As (cs := #[_, _]) rfl rfl EZ rfl rfl) ?_
   refine Zy (Ah (cs' := #[_, _]) rfl rfl rfl BH rfl (Ra rfl) rfl) ?_
   refine Zx <| DC.ret <| Ae <| Aa <| Aa ?_
   refine BT (cs := #[_, _]) (.inl rfl) rfl rfl Da BH ?_
   refine ⟨_, fun w hw => hw, .inr ⟨21, t.fr, ?_, by decide, rfl⟩⟩
   simp at c4
   simp [lineF, hh, c4]
  refine Zs ?_
  refine Zm ?_
  refine Zo (AT (ad' := ad.add (1 * 4)) rfl rfl rfl Rx B0 (by omega) (by simp) rfl) ?_
  refine Zf Dx ?_
  refine Zu (Ak rfl rfl AJ (CS (i := 3) (j := 1) rfl rfl 3 rfl)) ?_
  refine Zo (Bx rfl rfl rfl) ?_
  refine Za ?_
  refine Zx ?_
  refine Zd (fun c6 => ?_) fun c6 => ?_
  ·refine Zs ?_
   refine Zm ?_
   refine Zo (AT (ad' := ad.add (1 * 4)) rfl rfl rfl Rx B0 (by omega) (by simp) rfl) ?_
   refine Zf Ec ?_
   refine Zu (Ak rfl rfl AJ (CS (i := 3) (j := 1) rfl rfl 1 rfl)) ?_
   refine Zo (As (cs := #[_, _]) rfl rfl EZ rfl rfl) ?_
   refine Zy (Ah (cs' := #[_, _]) rfl rfl rfl BH rfl (Ra rfl) rfl) ?_
   refine Zx <| DC.ret <| Ae <| Aa <| Aa ?_
   refine BT (cs := #[_, _]) (.inl rfl) rfl rfl Da BH ?_
   refine ⟨_, fun w hw => hw, .inr ⟨22, u.fr, ?_, by decide, rfl⟩⟩
   simp at c4 c6
   simp [lineF, hh, c6]
   try omega
  refine DC.skip <| Fin.inBlock <| Fin.then <| DC.seq ?_
  refine AC (cl := [.q, .q, .q, .q, .q, .q, .q, .q, .q, .q, .q, .q, .q, .g, .q, .q, .q, .g, .q, .q, .g]) (A := [0, 0, 0, 0, 8, 24, 56, 0, 128, 384, 896, 2041, 4089, 8185, 16379, 32763, 65531, 131067, 262143, 524287, 1048575]) (order := [0, 1, 2, 3, 4, 5, 6, 7, 8, 9, 10, 11, 12, 13, 14, 15, 16, 17, 18, 19, 20]) ([slc (.slice (some ad) _ cl) 138 4 (tks [t, u])]) mixed (by kernel_rfl) (fun w hw => hw.pick (.cons 3 rfl .nil)) ?_
  iterate 4 refine Ym ?_
  refine Yo rfl (AT (ad' := ad.add (0 * 4)) rfl rfl rfl Rx B0 (by omega) (by simp) rfl) ?_
  refine Yf Dx ?_
  refine Flow.old rfl rfl rfl (Ak rfl rfl AJ (CS (i := 0) (j := 0) rfl rfl 3 rfl)) ?_
  refine Ym ?_
  refine Yo rfl (AT (ad' := ad.add (1 * 4)) rfl rfl rfl Rx B0 (by omega) (by simp) rfl) ?_
  refine Yf Dx ?_
  refine Flow.old rfl rfl rfl (Ak rfl rfl AJ (CS (i := 0) (j := 1) rfl rfl 3 rfl)) ?_
  refine Yo rfl (AA rfl rfl) ?_
  refine Yf In ?_
  refine AD rfl rfl rfl rfl (AB (cs' := #[_, _, _, _]) rfl rfl rfl IF rfl (Ra rfl) rfl) (fun w hw => hw.pick (.cons 3 rfl .nil)) ?_
  refine Yo rfl (AA rfl rfl) ?_
  refine Yf Dy ?_
  refine Yf KF ?_
  refine AD rfl rfl rfl rfl (AB (cs' := #[_, _, _, _]) rfl rfl rfl AN rfl (Ra rfl) rfl) (fun w hw => hw.pick (.cons 3 rfl .nil)) ?_
  refine Yo rfl (AA rfl rfl) ?_
  refine Yf Im ?_
  refine AD rfl rfl rfl rfl (AB (cs' := #[_, _, _, _]) rfl rfl rfl AN rfl (Ra rfl) rfl) (fun w hw => hw.pick (.cons 3 rfl .nil)) ?_
  refine Flow.end rfl ?_
  simp only [zq, zr]
  refine Fin.then <| Zs ?_
  refine Zo (As (cs := #[_, _]) rfl rfl EZ rfl rfl) ?_
  refine Zy (Ah (cs' := #[_, _]) rfl rfl rfl BH rfl (Ra rfl) rfl) ?_
  refine Zx <| DC.ret <| Aa ?_
  refine BT (cs := #[_, _]) (.inl rfl) rfl rfl Da BH ?_
  refine ⟨_, fun w hw => hw.pick (.cons 1 rfl (.cons 1 rfl (.cons 1 rfl .nil))), .inl ⟨⟨t.nu, s.ps, true, u.nu⟩, _, ?_, rfl, rfl⟩⟩
  simp at c4 c6
  simp [lineF, hh, show ¬ 1048576 < t.nu by omega, show ¬ 2097152 < u.nu by omega]
 have hh : s.hd = true := by simpa using c1
 refine DC.skip <| Fin.then <| DC.seq <| DC.block <| DC.seq ?_
 refine AC (cl := [.q, .q, .q, .q, .v, .q, .q, .q, .q, .v, .q, .q]) (A := [0, 1, 3, 7, 15, 31, 0, 64, 192, 448, 1023, 2047]) (order := [0, 1, 2, 3, 4, 5, 6, 7, 8, 9, 10, 11]) [] mixed (by kernel_rfl) (fun w hw => hw.pick .nil) ?_
 refine Ym ?_
 refine Yo rfl (AA rfl rfl) ?_
 refine Yf Dy ?_
 refine Yf GH ?_
 refine Yl OW ?_
 refine Yo rfl (CY rfl rfl Tryz.underlying37) ?_
 refine Ym ?_
 refine Yo rfl (AA rfl rfl) ?_
 refine Yf Im ?_
 refine Yl AJ ?_
 refine Yo rfl (Ck rfl rfl rfl) ?_
 refine Yo rfl (AF rfl rfl) ?_
 refine Flow.end rfl ?_
 simp only [zq, zr]
 refine Fin.then ?_
 refine Zd (fun c10 => ?_) fun c10 => ?_
 ·have hm : s.m ≤ s.ps.length := by simp at c10; omega
  refine Zs ?_
  refine Zm ?_
  refine Zo (AT (ad' := ad.add (0 * 4)) rfl rfl rfl Rx B0 (by omega) (by simp) rfl) ?_
  refine Zf Ec ?_
  refine Zu (Ak rfl rfl AJ (CS (i := 3) (j := 0) rfl rfl 1 rfl)) ?_
  refine Zo (As (cs := #[_, _]) rfl rfl EZ rfl rfl) ?_
  refine Zy (Ah (cs' := #[_, _]) rfl rfl rfl BH rfl (Ra rfl) rfl) ?_
  refine Zx <| DC.ret <| Ae <| Aa ?_
  refine BT (cs := #[_, _]) (.inl rfl) rfl rfl Da BH ?_
  refine ⟨_, fun w hw => hw, .inr ⟨26, t.fr, ?_, by decide, rfl⟩⟩
  simp [lineF, hh, hm]
 have hm : ¬ s.m ≤ s.ps.length := by simp at c10; omega
 refine Zs ?_
 refine Zm ?_
 refine Zn Rx ?_
 refine Zo (BQ rfl rfl rfl) ?_
 refine Za ?_
 refine Zx ?_
 refine Zd (fun c12 => ?_) fun c12 => ?_
 ·have hr : tr.length ≠ 1 := by simp at c12; omega
  refine Zs ?_
  refine Zm ?_
  refine Zo (AT (ad' := ad.add (0 * 4)) rfl rfl rfl Rx B0 (by omega) (by simp) rfl) ?_
  refine Zf Ec ?_
  refine Zu (Ak rfl rfl AJ (CS (i := 3) (j := 0) rfl rfl 1 rfl)) ?_
  refine Zo (As (cs := #[_, _]) rfl rfl EZ rfl rfl) ?_
  refine Zy (Ah (cs' := #[_, _]) rfl rfl rfl BH rfl (Ra rfl) rfl) ?_
  refine Zx <| DC.ret <| Ae <| Aa ?_
  refine BT (cs := #[_, _]) (.inl rfl) rfl rfl Da BH ?_
  refine ⟨_, fun w hw => hw, .inr ⟨23, t.fr, ?_, by decide, rfl⟩⟩
  match tr, hr with
  | [], _ => simp [lineF, hh, hm]
  | _ :: _ :: _, _ => simp [lineF, hh, hm]
  | [_], h => exact absurd rfl h
 have hr : tr.length = 1 := by simp at c12; omega
 obtain ⟨u, rfl⟩ := List.length_eq_one_iff.1 hr
 refine DC.skip <| Fin.inBlock <| Fin.then <| DC.seq <| Zs ?_
 refine Zm ?_
 refine Zn Rx ?_
 refine Zm ?_
 refine Zx <| DC.block ?_
 refine DC.loop (ι := Nat) (fun j => j ≤ 2 ∧ ∀ (p : Nat) k, p < j → [t, u][p]? = some k → k.nu < s.n)
  (fun j => [(0, .pointer (some ⟨gr, 0, none⟩)), (1, .slice (some ad) _ cl), (4, .pointer (some ⟨g4, 0, none⟩)), (88, .slice (some ad) _ cl), (89, .int .i64 2), (90, .int .i64 j)])
  (fun j => [blk g4 51 #[.int .i64 0, .int .i64 0], blk gr 135 #[.int .i64 s.n, .slice Ap s.ps.length cp, .bool s.hd, .int .i64 s.m], slc (.slice Ap s.ps.length cp) 35 2 (prs s.ps), slc (.slice (some ad) _ cl) 138 4 (tks [t, u])]) (fun j => 2 - j) 0 ⟨by omega, fun p k h => by omega⟩ ⟨rfl, rfl, rfl, rfl, rfl, rfl, trivial⟩ (.cons 0 rfl (.cons 0 rfl (.cons 0 rfl (.cons 0 rfl .nil)))) ?_
 rintro j ⟨hj, hall⟩
 refine Zs ?_
 refine Zc ?_
 refine Zx <| DC.seq ?_
 refine Zd (fun c15 => ?_) fun c15 => ?_
 ·have hj2 : j < 2 := by simp at c15; omega
  obtain ⟨k, hk⟩ : ∃ k, [t, u][j]? = some k := ⟨_, Q8 hj2⟩
  refine DC.skip <| Fin.then <| DC.seq <| DC.block <| Zs ?_
  refine Zo (AT (ad' := ad.add (j * 4)) rfl rfl rfl Rx B0 (by omega) (by simp; omega) (by rw [Rb])) ?_
  refine Zu (Aq (vs := [_, _, _, _]) rfl rfl N7 B0 rfl (Ic (i := 3) rfl hk)) ?_
  refine Zw (Ay rfl Hb rfl) fun g6 => ?_
  refine Zy (Ah (cs' := #[_, _, _, _]) rfl rfl rfl B0 rfl (Ra rfl) rfl) ?_
  refine Zx <| DC.seq ?_
  refine AC (cl := [.q, .v, .q, .q, .q, .q, .v, .q]) (A := [0, 1, 0, 4, 12, 28, 60, 127]) (order := [0, 1, 2, 3, 4, 5, 6, 7]) [] mixed (by kernel_rfl) (fun w hw => hw.pick .nil) ?_
  refine Yf Dx ?_
  refine Yl AJ ?_
  refine Ym ?_
  refine Yo rfl (AA rfl rfl) ?_
  refine Yf Dy ?_
  refine Yf KF ?_
  refine Yl AJ ?_
  refine Yo rfl (Ck rfl rfl rfl) ?_
  refine Flow.end rfl ?_
  simp only [zq, zr]
  refine Fin.then ?_
  refine Zd (fun c17 => ?_) fun c17 => ?_
  ·refine Zs ?_
   refine Zf Ec ?_
   refine Zl AJ ?_
   refine Zo (As (cs := #[_, _]) rfl rfl EZ rfl rfl) ?_
   refine Zy (Ah (cs' := #[_, _]) rfl rfl rfl BH rfl (Ra rfl) rfl) ?_
   refine Zx <| DC.ret <| Ae <| Aa <| Aa <| Ae <| Aa ?_
   refine BT (cs := #[_, _]) (.inl rfl) rfl rfl Da BH ?_
   refine ⟨_, fun w hw => hw, .inr ⟨24, k.fr, ?_, by decide, rfl⟩⟩
   have hn : s.n ≤ k.nu := by simpa using c17
   match j, hj2, hk with
   | 0, _, hk => cases hk; simp [lineF, hh, hm, hn]
   | 1, _, hk =>
    cases hk
    have h1 := hall 0 t (by omega) rfl
    simp [lineF, hh, hm, hn, show ¬ s.n ≤ t.nu by omega]
  refine DC.skip <| Fin.inBlock <| Fin.then <| DC.region ?_
  refine Zp ?_
  refine Zm ?_
  refine Seq.nil ?_
  refine Fin.again (j + 1) (by omega) ⟨by omega, fun p k' h1 h2 => ?_⟩ ⟨rfl, rfl, rfl, rfl, rfl, rfl, trivial⟩ (.cons 1 rfl (.cons 1 rfl (.cons 1 rfl (.cons 1 rfl .nil))))
  by_cases hp : p = j
  ·subst hp; rw [hk] at h2; cases h2; simp at c17; omega
  exact hall p k' (by omega) h2
 refine DC.exit <| Ad <| Ad <| Ag <| Fin.then <| DC.seq ?_
 refine AC (cl := [.q, .q, .q, .q, .q, .v, .q, .q, .q, .v, .q, .q, .q, .v, .q, .n, .g, .q, .q, .q, .g]) (A := [0, 0, 2, 6, 14, 30, 0, 64, 192, 448, 0, 1024, 3072, 7168, 16320, 32704, 65534, 131071, 262143, 524287, 1048575]) (order := [0, 1, 2, 3, 4, 5, 6, 7, 8, 9, 10, 11, 12, 13, 14, 15, 16, 17, 18, 19, 20]) [] mixed (by kernel_rfl) (fun w hw => hw.pick .nil) ?_
 iterate 2 refine Ym ?_
 refine Yo rfl (AA rfl rfl) ?_
 refine Yf Dy ?_
 refine Yf GH ?_
 refine Yl OW ?_
 refine Ym ?_
 refine Yo rfl (AT (ad' := ad.add (0 * 4)) rfl rfl rfl Rx B0 (by omega) (by simp) rfl) ?_
 refine Yf Dx ?_
 refine Ar rfl rfl rfl rfl (Ak rfl rfl AJ (CS (i := 3) (j := 0) rfl rfl 3 rfl)) ?_
 refine Ym ?_
 refine Yo rfl (AT (ad' := ad.add (1 * 4)) rfl rfl rfl Rx B0 (by omega) (by simp) rfl) ?_
 refine Yf Dx ?_
 refine Ar rfl rfl rfl rfl (Ak rfl rfl AJ (CS (i := 3) (j := 1) rfl rfl 3 rfl)) ?_
 refine Yo rfl (H3 (cs := #[.int .i64 t.nu, .int .i64 u.nu]) rfl rfl Tryz.underlying35 AN J7 rfl rfl rfl) ?_
 refine Be rfl rfl rfl rfl (AM (cs := #[_, _]) rfl rfl Tryz.underlying37 IO J7 rfl (by decide) (by decide) rfl rfl) fun g121 => ?_
 refine CL (V := [blk g121 35 #[.int .i64 t.nu, .int .i64 u.nu], blk g4 51 #[.int .i64 0, .int .i64 0], blk gr 135 #[.int .i64 s.n, .slice Ap s.ps.length cp, .bool s.hd, .int .i64 s.m], slc (.slice Ap s.ps.length cp) 35 2 (prs s.ps), slc (.slice (some ad) _ cl) 138 4 (tks [t, u])]) rfl rfl rfl rfl rfl (Gen.shape (AR (F := [blk g121 _ _, blk g4 _ _, blk gr _ _, slc _ _ _ _]) (vs := prs s.ps) (k := 1) (news := [.int .i64 t.nu, .int .i64 u.nu]) rfl rfl rfl Tryz.underlying37 IO by35 J7 rfl (by decide) (by decide)
  (fun w hw => hw.pick (.cons 3 rfl (.cons 0 rfl (.cons 0 rfl (.cons 0 rfl (.cons 0 rfl .nil)))))) (.inl ⟨_, _, rfl, Ai rfl⟩) rfl (by intro u hu; simp at hu; rcases hu with rfl | rfl <;> rfl) (by rw [prs_length]; omega))) (fun v L' hC w hw => hw.pick (.nil)) ?_
 rintro _ _ ⟨⟨A11, l11, c11, rfl⟩, rfl⟩
 refine Yo rfl (AA rfl rfl) ?_
 refine Yf Dy ?_
 refine Yf GH ?_
 refine AD rfl rfl rfl rfl (AB (cs' := #[_, _, _, _]) rfl rfl rfl sz37 rfl (Ra rfl) rfl) (fun w hw => hw.pick (.nil)) ?_
 refine Flow.end rfl ?_
 simp only [zq, zr]
 refine Fin.then <| Zs ?_
 refine Zo (As (cs := #[_, _]) rfl rfl EZ rfl rfl) ?_
 refine Zy (Ah (cs' := #[_, _]) rfl rfl rfl BH rfl (Ra rfl) rfl) ?_
 refine Zx <| DC.ret ?_
 refine BT (cs := #[_, _]) (.inl rfl) rfl rfl Da BH ?_
 have hj2 : j = 2 := by simp at c15; omega
 have h1 := hall 0 t (by omega) rfl
 have h2 := hall 1 u (by omega) rfl
 refine ⟨_, fun w hw => hw.pick (.cons 3 rfl (.cons 0 rfl (.cons 2 rfl .nil))), .inl ⟨⟨s.n, s.ps ++ [(t.nu, u.nu)], true, s.m⟩, .slice A11 l11 c11, ?_, rfl, ?_⟩⟩
 ·simp [lineF, hh, hm, show ¬ s.n ≤ t.nu by omega, show ¬ s.n ≤ u.nu by omega]
 simp [liL, Cp, prs, hh]
theorem HW {gr : Nat} {vp vl : Value} {s : RdS} {tk : List Tk} {w : World} (hO : Own w (idsOf (liL gr vp s vl tk)) w (liL gr vp s vl tk)) (h0 : tk ≠ []) (hl : tk.length ≤ 100000000) (hp : s.ps.length ≤ 100000000) :
  Calls Tryz.prog 73 #[.pointer (some ⟨gr, 0, none⟩), vl] w (Ret w (idsOf (liL gr vp s vl tk)) fun r M => ∃ c a, r = .agg #[.int .i64 c, .int .i64 a] ∧
   ((c = 0 ∧ ∃ s' vp', lineF s tk = .ok s' ∧ M = liL gr vp' s' vl tk) ∨ (c ≠ 0 ∧ lineF s tk = .bad c a))) := by
 refine Calls.mono (I1 hO h0 hl hp) ?_
 rintro e w' ⟨v, L', rfl, ⟨s', vp', h1, rfl, rfl⟩ | ⟨c, a, h1, h2, rfl⟩, hO⟩
 ·exact ⟨_, _, rfl, ⟨0, 0, rfl, .inl ⟨rfl, s', vp', h1, rfl⟩⟩, hO⟩
 exact ⟨_, _, rfl, ⟨c, a, rfl, .inr ⟨h2, h1⟩⟩, hO⟩
theorem JZ {vb : Value} {bs : List UInt8} {w : World} (hB : ByV w vb bs) :
  Calls Tryz.prog 72 #[vb] w (Ret w [] fun r M => ∃ tk A c a e, r = .tuple #[.slice A tk.length c, .int .i64 a, .int .i64 e] ∧ M = [slc (.slice A tk.length c) 138 4 (tks tk)] ∧ tk.length ≤ 33554433 ∧ (tk ≠ [] → ∃ ad, A = some ad) ∧ ((e = 0 ∧ scanA bs = .ok tk) ∨ (e ≠ 0 ∧ scanA bs = .bad a e))) := by
 refine Calls.mono (KX hB) ?_
 rintro e w' ⟨v, L', rfl, ⟨tk, vt, hsc, htl, rfl, rfl⟩ | ⟨a, e, hsc, rfl, rfl⟩, hO⟩
 ·obtain ⟨A, c, rfl, hR, _⟩ := HP hO 0 rfl
  refine ⟨_, _, rfl, ⟨tk, A, c, 0, 0, rfl, rfl, htl, fun hne => ?_, .inl ⟨rfl, hsc⟩⟩, hO⟩
  obtain ⟨k, hk⟩ : ∃ k, tk[0]? = some k := ⟨_, Q8 (List.length_pos_iff.2 hne)⟩
  obtain ⟨ad, e, _⟩ := hR.tk hk
  exact ⟨ad, e⟩
 exact ⟨_, _, rfl, ⟨[], none, 0, a, e, rfl, rfl, by simp, fun h => absurd rfl h, .inr ⟨L4 hsc, hsc⟩⟩, AU hO⟩
structure FeI where
 s : RdS
 l : List Tk
 j : Nat
 vp : Value
 vl : Value
def RawR (bs : List UInt8) (r : Value) (M : List Chunk) : Prop :=
 (∃ n ps vp, rawF bs = .ok n ps ∧ ps.length ≤ 33554433 ∧ r = .tuple #[.agg #[.int .i64 n, vp], .agg #[.int .i64 0, .int .i64 0]] ∧ M = [slc vp 35 2 (prs ps)]) ∨
 (∃ c a, rawF bs = .bad c a ∧ c ≠ 0 ∧ r = .tuple #[.agg #[.int .i64 0, .slice none 0 0], .agg #[.int .i64 c, .int .i64 a]] ∧ M = [])
theorem HJ {vb : Value} {bs : List UInt8} {w : World} (hB : ByV w vb bs) :
  Calls Tryz.prog 38 #[vb] w (Ret w [] (RawR bs)) := by
 have ho : ByO vb bs [] := fun _ _ _ _ _ h => by simp at h
 obtain ⟨Ab, cb, rfl⟩ := hB.len
 refine Ao (K := []) (args := [_]) (L := []) Tryz.func38 rfl Tryz.ntmps38 rfl (Own.start _ _) ?_
 refine Zs ?_
 refine Zw (Ay rfl Pd rfl) fun g2 => ?_
 refine Zw (Ay rfl HL rfl) fun g3 => ?_
 refine Zx ?_
 refine DC.scope ?_
 refine DC.seq <| Zs ?_
 refine Zm ?_
 refine Zn Rv ?_
 refine Zo (Bx rfl rfl rfl) ?_
 refine Zx ?_
 refine Zd (fun c1 => ?_) fun c1 => ?_
 ·refine Zs ?_
  refine Zo (As (cs := #[_, _]) rfl rfl N4 rfl rfl) ?_
  refine Zo (As (cs := #[_, _]) rfl rfl EZ rfl rfl) ?_
  refine Zy (Ah (cs' := #[_, _]) rfl rfl rfl Ej rfl (Ra rfl) rfl) ?_
  refine Zy (Ah (cs' := #[_, _]) rfl rfl rfl BH rfl (Ra rfl) rfl) ?_
  refine Zx <| DC.ret <| Aa <| BV ?_
  refine B5 (cs := #[_, _]) (cs' := #[_, _]) (.inl rfl) rfl rfl rfl KV Ej Da BH ?_
  refine ⟨[], fun w hw => hw.pick .nil, .inr ⟨10, 16777216, ?_, by decide, rfl, rfl⟩⟩
  have : 16777216 < bs.length := by simp at c1; omega
  simp [rawF, this]
 have hlen : ¬ 16777216 < bs.length := by simp at c1; omega
 refine DC.skip <| Fin.then <| Zs ?_
 refine Zm ?_
 refine Seq.gen rfl rfl (AQ en72 rfl rfl rfl (Lc := []) (F := [blk g3 51 #[.int .i64 0, .int .i64 0], blk g2 84 #[.int .i64 0, .slice none 0 0]]) (.refl _) (fun k hk => by simp at hk) (fun w hw => JZ (hB.keep0 hw))) ?_
 rintro _ _ ⟨_, ⟨tk, A, c, a, e, rfl, rfl, htl, hA, hsc⟩, rfl⟩
 refine Zm ?_
 iterate 3 refine Ze ?_
 iterate 3 refine Za ?_
 refine Zx <| DC.seq <| DC.seq ?_
 simp only [zs]
 refine DC.region ?_
 refine Zm ?_
 refine Zo (BQ rfl rfl rfl) ?_
 refine Zx ?_
 refine Zd (fun c4 => ?_) fun c4 => ?_
 ·have hbad : scanA bs = .bad a e ∧ e ≠ 0 := by
   rcases hsc with ⟨rfl, _⟩ | ⟨h1, h2⟩
   ·simp at c4
   exact ⟨h2, h1⟩
  refine Zs ?_
  refine Zo (As (cs := #[_, _]) rfl rfl N4 rfl rfl) ?_
  iterate 2 refine Zm ?_
  refine Zo (As (cs := #[_, _]) rfl rfl EZ rfl rfl) ?_
  refine Zy (Ah (cs' := #[_, _]) rfl rfl rfl Ej rfl (Ra rfl) rfl) ?_
  refine Zy (Ah (cs' := #[_, _]) rfl rfl rfl BH rfl (Ra rfl) rfl) ?_
  refine Zx <| DC.ret <| Aa <| BV ?_
  refine B5 (cs := #[_, _]) (cs' := #[_, _]) (.inl rfl) rfl rfl rfl KV Ej Da BH ?_
  refine ⟨[], fun w hw => hw.pick .nil, .inr ⟨e, a, ?_, hbad.2, rfl, rfl⟩⟩
  simp [rawF, hlen, hbad.1]
 have hok : scanA bs = .ok tk := by
  rcases hsc with ⟨_, h2⟩ | ⟨h1, h2⟩
  ·exact h2
  simp at c4; exact absurd c4.symm (fun h => h1 h.symm)
 have hrw : rawF bs = endF bs.length (feedF ⟨0, [], false, 0⟩ [] tk) := by simp [rawF, hlen, hok]
 refine DC.skip <| Fin.then <| Zs ?_
 refine Zw (Ay rfl PR rfl) fun g7 => ?_
 refine Zx <| Zs ?_
 refine Za ?_
 refine Zx <| DC.seq <| DC.label <| Fin.then ?_
 refine DC.cut (ι := FeI) (fun i => feedF ⟨0, [], false, 0⟩ [] tk = .ok i.s ∧ i.s.ps.length ≤ 33554433) (fun i => [(0, .slice Ab bs.length cb), (2, .pointer (some ⟨g2, 0, none⟩)), (3, .pointer (some ⟨g3, 0, none⟩)), (7, .pointer (some ⟨g7, 0, none⟩))])
  (fun i => [blk g7 135 #[.int .i64 i.s.n, i.vp, .bool i.s.hd, .int .i64 i.s.m], slc i.vp 35 2 (prs i.s.ps), blk g3 51 #[.int .i64 0, .int .i64 0], blk g2 84 #[.int .i64 0, .slice none 0 0]]) ?first ?rest
 case first =>
  refine DC.seq ?_
  refine DC.own (fun w hw => AU (t := 138) (m := 4) (AU (t := 35) (m := 2) hw)) ?_
  refine DC.region ?_
  refine Zm ?_
  refine Zn Rx ?_
  refine Zm ?_
  refine Zx <| DC.block ?_
  refine DC.loop (ι := FeI) (fun i => feedF ⟨0, [], false, 0⟩ [] tk = feedF i.s i.l (tk.drop i.j) ∧ i.j ≤ tk.length ∧ i.s.ps.length ≤ i.j ∧ i.l.length ≤ i.j)
   (fun i => [(0, .slice Ab bs.length cb), (2, .pointer (some ⟨g2, 0, none⟩)), (3, .pointer (some ⟨g3, 0, none⟩)), (7, .pointer (some ⟨g7, 0, none⟩)), (8, i.vl), (29, .slice A tk.length c), (30, .int .i64 tk.length), (31, .int .i64 (i.j : Nat))])
   (fun i => [blk g7 135 #[.int .i64 i.s.n, i.vp, .bool i.s.hd, .int .i64 i.s.m], slc i.vp 35 2 (prs i.s.ps), slc i.vl 138 4 (tks i.l), blk g3 51 #[.int .i64 0, .int .i64 0], blk g2 84 #[.int .i64 0, .slice none 0 0], slc (.slice A tk.length c) 138 4 (tks tk)]) (fun i => tk.length - i.j)
   ⟨⟨0, [], false, 0⟩, [], 0, .slice none 0 0, .slice none 0 0⟩ ⟨rfl, by simp, by simp, by simp⟩ ⟨rfl, rfl, rfl, rfl, rfl, rfl, rfl, rfl, trivial⟩ (.cons 2 rfl (.cons 1 rfl (.cons 0 rfl (.cons 1 rfl (.cons 1 rfl (.cons 0 rfl .nil)))))) ?_
  rintro ⟨s, l, j, vp, vl⟩ ⟨hfe, hj, hpl, hll⟩
  dsimp only at hfe hj hpl hll ⊢
  refine Zs ?_
  refine Zc ?_
  refine Zx <| DC.seq ?_
  refine Zd (fun c9 => ?_) fun c9 => ?_
  ·have hj9 : j < tk.length := by simpa using c9
   obtain ⟨k, hk⟩ : ∃ k, tk[j]? = some k := ⟨_, Q8 hj9⟩
   obtain ⟨ad, rfl⟩ := hA (fun e => by rw [e] at hj9; simp at hj9)
   have hdr : tk.drop j = k :: tk.drop (j + 1) := by rw [List.drop_eq_getElem_cons hj9]; congr 1; exact (Q9.1 hk).2
   rw [hdr] at hfe
   refine DC.skip <| Fin.then <| DC.seq <| DC.block <| Zs ?_
   refine Zo (AT (ad' := ad.add (j * 4)) rfl rfl rfl Rx B0 (by omega) (by omega) (by rw [Rb])) ?_
   refine Zu (Aq (vs := [_, _, _, _]) rfl rfl N7 B0 rfl (Ic (i := 5) rfl hk)) ?_
   refine Zw (Ay rfl Hb rfl) fun g10 => ?_
   refine Zy (Ah (cs' := #[_, _, _, _]) rfl rfl rfl B0 rfl (Ra rfl) rfl) ?_
   refine Zx <| DC.seq <| Zs ?_
   refine Zf Il ?_
   refine Zl N8 ?_
   refine Zo (AW rfl rfl rfl) ?_
   refine Zx ?_
   refine Zd (fun c11 => ?_) fun c11 => ?_
   ·have hk1 : k.kd = 1 := by simpa using c11
    refine Zs ?_
    refine Zm ?_
    refine Zu (Aq (vs := [_, _, _, _]) rfl rfl N7 B0 rfl (Ai rfl)) ?_
    refine Zw (AM (cs := #[_, _, _, _]) rfl rfl Rx B0 Hb rfl (by decide) (by decide) rfl rfl) fun g40 => ?_
    refine Seq.gen rfl rfl (Gen.shape (AR (F := [blk g40 _ _, blk g10 _ _, blk g7 _ _, slc _ _ _ _, blk g3 _ _, blk g2 _ _, slc _ _ _ _]) (vs := tks l) (k := 1) (news := [.int .i64 k.kd, .int .i64 k.fr, .int .i64 k.en, .int .i64 k.nu]) rfl rfl rfl Rx B0 Pc Hb rfl (by decide) (by decide)
     (fun w hw => hw.pick (.cons 4 rfl (.cons 0 rfl (.cons 0 rfl (.cons 0 rfl (.cons 0 rfl (.cons 0 rfl (.cons 0 rfl (.cons 0 rfl .nil))))))))) (.inl ⟨_, _, rfl, Ai rfl⟩) rfl (by intro u hu; simp at hu; rcases hu with rfl | rfl | rfl | rfl <;> rfl) (by rw [tks_length]; omega))) ?_
    rintro _ _ ⟨⟨A11, l11, c11', rfl⟩, rfl⟩
    refine Za ?_
    refine Zx <| DC.exit <| Ad <| Ag <| Fin.then <| DC.region ?_
    refine Zp ?_
    refine Zm ?_
    refine Seq.nil ?_
    refine Fin.again ⟨s, l ++ [k], j + 1, vp, .slice A11 l11 c11'⟩ (by dsimp only; omega) ⟨hfe.trans (Fm hk1), by dsimp only; omega, by dsimp only; omega, by simp; omega⟩ ⟨rfl, rfl, rfl, rfl, rfl, rfl, rfl, rfl, trivial⟩ (.cons 3 rfl (.cons 3 rfl (.cons' 0 rfl (by rw [F8]; rfl) (.cons 2 rfl (.cons 2 rfl (.cons 2 rfl .nil))))))
   have hk1 : k.kd ≠ 1 := by simpa using c11
   refine DC.skip <| Fin.then <| DC.seq <| DC.seq ?_
   refine MM 3 rfl ?_
   rintro ⟨Al, cl, rfl⟩
   refine DC.region ?_
   refine Zm ?_
   refine Zn Rx ?_
   refine Zo (Bx rfl rfl rfl) ?_
   refine Zx ?_
   refine Zd (fun c13 => ?_) fun c13 => ?_
   ·have hl0 : l ≠ [] := by rintro rfl; simp at c13
    refine DC.seq <| Zs ?_
    refine Zm ?_
    refine Seq.gen rfl rfl (AQ en73 rfl rfl rfl (Lc := liL g7 vp s (.slice Al l.length cl) l) (F := [blk g10 138 #[.int .i64 k.kd, .int .i64 k.fr, .int .i64 k.en, .int .i64 k.nu], blk g3 51 #[.int .i64 0, .int .i64 0], blk g2 84 #[.int .i64 0, .slice none 0 0], slc (.slice (some ad) tk.length c) 138 4 (tks tk)]) (List.perm_middle (a := blk g10 138 #[.int .i64 k.kd, .int .i64 k.fr, .int .i64 k.en, .int .i64 k.nu]) (l₁ := liL g7 vp s (.slice Al l.length cl) l)).symm (fun k hk => hk) (fun w hw => HW (hw.pick (L' := liL g7 vp s (.slice Al l.length cl) l) (.cons 1 rfl (.cons 1 rfl (.cons 1 rfl .nil)))).self hl0 (by omega) (by omega))) ?_
    rintro _ _ ⟨M', ⟨cc, aa, rfl, hln⟩, rfl⟩
    refine Seq.own (fun w hw => hw.perm (Rr)) ?_
    simp only [zs]
    refine Zw (Ay rfl HL rfl) fun g11 => ?_
    refine Zy (Ah (cs' := #[_, _]) rfl rfl rfl BH rfl (Ra rfl) rfl) ?_
    refine Zx <| Zs ?_
    refine Zf GJ ?_
    refine Zl Fq ?_
    refine Zo (BQ rfl rfl rfl) ?_
    refine Zx ?_
    refine Zd (fun c15 => ?_) fun c15 => ?_
    ·have hbad : lineF s l = .bad cc aa ∧ cc ≠ 0 := by
      rcases hln with ⟨rfl, _⟩ | ⟨h1, h2⟩
      ·simp at c15
      exact ⟨h2, h1⟩
     refine DC.seq ?_
     refine AC (cl := [.q, .q, .g, .g]) (A := [0, 0, 1, 7]) (order := [0, 1, 2, 3]) ([blk g11 51 #[.int .i64 cc, .int .i64 aa]]) mixed (by kernel_rfl) (fun w hw => hw.pick (.cons 0 rfl .nil)) ?_
     refine Yo rfl (As (cs := #[_, _]) rfl rfl N4 rfl rfl) ?_
     refine Flow.old rfl rfl rfl (Aq (vs := [_, _]) rfl rfl Da BH rfl (Ai rfl)) ?_
     refine AD rfl rfl rfl rfl (Ah (cs' := #[_, _]) rfl rfl rfl Ej rfl (Ra rfl) rfl) (fun w hw => hw.pick (.cons 0 rfl .nil)) ?_
     refine AD rfl rfl rfl rfl (Ah (cs' := #[_, _]) rfl rfl rfl BH rfl (Ra rfl) rfl) (fun w hw => hw.pick (.cons 0 rfl .nil)) ?_
     refine Flow.end rfl ?_
     simp only [zq, zr]
     refine Fin.then <| DC.ret <| Aa <| Aa <| Ae <| Aa <| Aa <| Ae <| Aa <| BV ?_
     refine B5 (cs := #[_, _]) (cs' := #[_, _]) (.inl rfl) rfl rfl rfl KV Ej Da BH ?_
     refine ⟨[], fun w hw => hw.pick .nil, .inr ⟨cc, aa, ?_, hbad.2, rfl, rfl⟩⟩
     rw [hrw, hfe, Mw hk1 hl0 hbad.1]; rfl
    obtain ⟨s', vp', hs', rfl⟩ : ∃ s' vp', lineF s l = .ok s' ∧ M' = liL g7 vp' s' (.slice Al l.length cl) l := by
     rcases hln with ⟨_, h⟩ | ⟨h1, h2⟩
     ·exact h
     simp at c15; exact absurd c15.symm (fun h => h1 h.symm)
    have hpl' := Mo hs'
    refine DC.skip <| Fin.then <| DC.region ?_
    refine Zm ?_
    refine Zo (Gk (hi := 0) rfl rfl rfl Rx B0 (by omega)) ?_
    refine Za ?_
    refine Seq.nil ?_
    unfold liL
    refine Fin.own (fun w hw => Mf (m := 4) 7 rfl (by decide) hw) ?_
    simp only [List.eraseIdx_cons_succ, List.eraseIdx_cons_zero]
    refine Fin.then <| Zs ?_
    refine Zf Il ?_
    refine Zl N8 ?_
    refine Zo (AW rfl rfl rfl) ?_
    refine Zx ?_
    refine Zd (fun c18 => ?_) fun c18 => ?_
    ·have hk3 : k.kd = 3 := by simpa using c18
     refine DC.exit <| Eg (by decide) <| Ad <| Ad <| Ag ?_
     refine AO ⟨s', [], 0, vp', .slice none 0 0⟩ ⟨hfe.trans (HD hk1 (.inr ⟨hl0, hs'⟩) hk3), by dsimp only; omega⟩ ⟨rfl, rfl, rfl, rfl, trivial⟩ (.cons 6 rfl (.cons 6 rfl (.cons 3 rfl (.cons 3 rfl .nil))))
    have hk3 : k.kd ≠ 3 := by simpa using c18
    refine DC.skip <| Fin.inBlock <| Fin.then <| DC.region ?_
    refine Zp ?_
    refine Zm ?_
    refine Seq.nil ?_
    refine Fin.again ⟨s', [], j + 1, vp', .slice Al 0 cl⟩ (by dsimp only; omega) ⟨hfe.trans (GK hk1 (.inr ⟨hl0, hs'⟩) hk3), by dsimp only; omega, by dsimp only; omega, by simp⟩ ⟨rfl, rfl, rfl, rfl, rfl, rfl, rfl, rfl, trivial⟩ (.cons 6 rfl (.cons 6 rfl (.cons 0 rfl (.cons 2 rfl (.cons 2 rfl (.cons 2 rfl .nil))))))
   have hl0 : l = [] := by simp at c13; exact c13
   refine DC.skip <| Fin.then <| Zs ?_
   refine Zf Il ?_
   refine Zl N8 ?_
   refine Zo (AW rfl rfl rfl) ?_
   refine Zx ?_
   refine Zd (fun c18 => ?_) fun c18 => ?_
   ·have hk3 : k.kd = 3 := by simpa using c18
    refine DC.exit <| Eg (by decide) <| Ad <| Ad <| Ag ?_
    refine AO ⟨s, [], 0, vp, .slice none 0 0⟩ ⟨hfe.trans (HD hk1 (.inl ⟨hl0, rfl⟩) hk3), by dsimp only; omega⟩ ⟨rfl, rfl, rfl, rfl, trivial⟩ (.cons 1 rfl (.cons 1 rfl (.cons 2 rfl (.cons 2 rfl .nil))))
   have hk3 : k.kd ≠ 3 := by simpa using c18
   refine DC.skip <| Fin.inBlock <| Fin.then <| DC.region ?_
   refine Zp ?_
   refine Zm ?_
   refine Seq.nil ?_
   subst hl0
   refine Fin.again ⟨s, [], j + 1, vp, .slice Al ([] : List Tk).length cl⟩ (by dsimp only; omega) ⟨hfe.trans (GK hk1 (.inl ⟨rfl, rfl⟩) hk3), by dsimp only; omega, by dsimp only; omega, by simp⟩ ⟨rfl, rfl, rfl, rfl, rfl, rfl, rfl, rfl, trivial⟩ (.cons 1 rfl (.cons 1 rfl (.cons 1 rfl (.cons 1 rfl (.cons 1 rfl (.cons 1 rfl .nil))))))
  refine DC.exit <| Ad <| Ad <| Ag ?_
  have hj9 : tk.length ≤ j := by simp at c9; omega
  rw [List.drop_eq_nil_of_le hj9] at hfe
  refine AO ⟨s, [], 0, vp, .slice none 0 0⟩ ⟨hfe, by dsimp only; omega⟩ ⟨rfl, rfl, rfl, rfl, trivial⟩ (.cons 0 rfl (.cons 0 rfl (.cons 1 rfl (.cons 1 rfl .nil))))
 rintro ⟨s, l', j', vp, vl'⟩ ⟨hfe, hpl⟩
 dsimp only at hfe hpl ⊢
 refine Ft 1 rfl (by omega) ?_
 rintro ⟨Ap, cp, rfl⟩
 refine DC.seq <| DC.block <| Zs ?_
 refine Zf In ?_
 refine Zl MO ?_
 refine Zo (Bb rfl rfl) ?_
 refine Za ?_
 refine Zx ?_
 refine Zd (fun c20 => ?_) fun c20 => ?_
 ·refine Zs ?_
  refine Zo (As (cs := #[_, _]) rfl rfl N4 rfl rfl) ?_
  refine Zm ?_
  refine Zn Rv ?_
  refine Zo (As (cs := #[_, _]) rfl rfl EZ rfl rfl) ?_
  refine Zy (Ah (cs' := #[_, _]) rfl rfl rfl Ej rfl (Ra rfl) rfl) ?_
  refine Zy (Ah (cs' := #[_, _]) rfl rfl rfl BH rfl (Ra rfl) rfl) ?_
  refine Zx <| DC.ret <| Ae <| Aa <| BV ?_
  refine B5 (cs := #[_, _]) (cs' := #[_, _]) (.inl rfl) rfl rfl rfl KV Ej Da BH ?_
  refine ⟨[], fun w hw => hw.pick .nil, .inr ⟨20, bs.length, ?_, by decide, rfl, rfl⟩⟩
  have hh : s.hd = false := by simpa using c20
  rw [hrw, hfe]; simp [endF, hh]
 have hh : s.hd = true := by simpa using c20
 refine Zs ?_
 refine Zf Dy ?_
 refine Zf GH ?_
 refine Zl OW ?_
 refine Zn Tryz.underlying37 ?_
 refine Zf Im ?_
 refine Zl AJ ?_
 refine Zc ?_
 refine Za ?_
 refine Zx ?_
 refine Zd (fun c22 => ?_) fun c22 => ?_
 ·refine Zs ?_
  refine Zo (As (cs := #[_, _]) rfl rfl N4 rfl rfl) ?_
  refine Zm ?_
  refine Zn Rv ?_
  refine Zo (As (cs := #[_, _]) rfl rfl EZ rfl rfl) ?_
  refine Zy (Ah (cs' := #[_, _]) rfl rfl rfl Ej rfl (Ra rfl) rfl) ?_
  refine Zy (Ah (cs' := #[_, _]) rfl rfl rfl BH rfl (Ra rfl) rfl) ?_
  refine Zx <| DC.ret <| Ae <| Aa <| BV ?_
  refine B5 (cs := #[_, _]) (cs' := #[_, _]) (.inl rfl) rfl rfl rfl KV Ej Da BH ?_
  refine ⟨[], fun w hw => hw.pick .nil, .inr ⟨25, bs.length, ?_, by decide, rfl, rfl⟩⟩
  have hm : (s.ps.length : Int) < s.m := by simpa using c22
  rw [hrw, hfe]; simp [endF, hh, hm]
 refine DC.skip <| Fin.inBlock <| Fin.then <| Zs ?_
 refine Zf Dy ?_
 refine Zu (Aq (vs := [_, _]) rfl rfl KV Ej rfl (Ai rfl)) ?_
 refine Zo (As (cs := #[_, _]) rfl rfl EZ rfl rfl) ?_
 refine Zy (Ah (cs' := #[_, _]) rfl rfl rfl Ej rfl (Ra rfl) rfl) ?_
 refine Zy (Ah (cs' := #[_, _]) rfl rfl rfl BH rfl (Ra rfl) rfl) ?_
 refine Zx <| DC.ret <| BV ?_
 refine B5 (cs := #[_, _]) (cs' := #[_, _]) (.inl rfl) rfl rfl rfl KV Ej Da BH ?_
 refine ⟨_, fun w hw => hw.pick (.cons 1 rfl .nil), .inl ⟨s.n, s.ps, _, ?_, hpl, rfl, rfl⟩⟩
 have hm : ¬ (s.ps.length : Int) < s.m := by simp at c22; omega
 rw [hrw, hfe]; simp [endF, hh, hm]
open Classical
theorem OD {bs : List UInt8} {i k : Nat} {n : Int} (e : numP bs i = some (n, k)) : i ≤ k := by
 unfold numP at e
 split at e
 ·cases e
 cases e; omega
theorem Gv {bs : List UInt8} : ∀ {f i : Nat} {acc l : List Int} {j : Nat}, listGo bs f i acc = some (l, j) → l.length + i ≤ acc.length + j
 | 0, _, _, _, _, h => by simp [listGo] at h
 | f + 1, i, acc, l, j, h => by
  unfold listGo at h
  cases e : numP bs i with
  | none => rw [e] at h; cases h
  | some q =>
   obtain ⟨n, k⟩ := q
   have hk := OD e
   rw [e] at h
   dsimp only at h
   split at h
   ·cases h
   split at h
   ·have := Gv h
    simp at this; omega
   split at h
   ·cases h; simp; omega
   cases h
theorem Mm {bs : List UInt8} {i j : Nat} {l : List Int} (h : listP bs i = some (l, j)) : l.length + i ≤ j := by
 unfold listP at h
 split at h
 ·cases h; simp
 have := Gv h
 simp at this; omega
def sumL (ls : List (List Int)) : Nat := (ls.map List.length).sum
theorem Hd {bs : List UInt8} : ∀ {k i : Nat} {ls ls' : List (List Int)} {cs cs' : List Pr} {j : Nat}, tailP true bs k i ls cs = some (ls', cs', j) → sumL ls' + i ≤ sumL ls + j
 | 0, _, _, _, _, _, _, h => by simp [tailP] at h; obtain ⟨rfl, _, rfl⟩ := h; exact Nat.le_refl _
 | k + 1, i, ls, ls', cs, cs', j, h => by
  unfold tailP at h
  rw [if_pos rfl] at h
  cases e : listP bs i with
  | none => rw [e] at h; cases h
  | some q =>
   obtain ⟨l, m⟩ := q
   have h1 := Mm e
   rw [e] at h
   have h2 := Hd h
   simp [sumL] at h2 ⊢; omega
theorem He {bs : List UInt8} : ∀ {k i : Nat} {ls ls' : List (List Int)} {cs cs' : List Pr} {j : Nat}, tailP false bs k i ls cs = some (ls', cs', j) → ls' = ls
 | 0, _, _, _, _, _, _, h => by simp [tailP] at h; exact h.1.symm
 | k + 1, i, ls, ls', cs, cs', j, h => by
  unfold tailP at h
  rw [if_neg (by decide)] at h
  cases e : edgeP bs i cs with
  | none => rw [e] at h; cases h
  | some q =>
   obtain ⟨l, m⟩ := q
   rw [e] at h
   exact He h
theorem I8 {pl pl' : Bool} {bs : List UInt8} {ls : List (List Int)} {cs : List Pr} (h : midP pl bs = some (pl', ls, cs)) : sumL ls ≤ bs.length := by
 unfold midP at h
 split at h
 ·cases e : numP bs 2 with
  | none => rw [e] at h; cases h
  | some q =>
   obtain ⟨k, j⟩ := q
   rw [e] at h
   dsimp only at h
   generalize (if pl = true then (1048576 : Int) else 4194304) = B at h
   split at h
   ·cases h
   split at h
   ·cases e2 : tailP pl bs k.toNat (j + 1) [] [] with
    | none => rw [e2] at h; cases h
    | some q =>
     obtain ⟨ls', cs', m⟩ := q
     rw [e2] at h
     dsimp only at h
     split at h
     ·cases h
      cases pl with
      | true => have := Hd e2; simp [sumL] at this ⊢; omega
      | false => rw [He e2]; simp [sumL]
     cases h
   cases h
 cases h
theorem ME {bs : List UInt8} {pl : Bool} {ls : List (List Int)} {cs : List Pr} (h : certA bs = some (pl, ls, cs)) : sumL ls ≤ 33554432 := by
 unfold certA at h
 split at h
 ·cases h
 have : sumL ls ≤ bs.length := by
  unfold certP at h
  split at h
  ·exact I8 h
  split at h
  ·exact I8 h
  cases h
 omega
theorem MV {ls : List (List Int)} : ∀ {l : List Int}, l ∈ ls → l.length ≤ sumL ls := by
 induction ls with
 | nil => intro l h; cases h
 | cons a r ih =>
  intro l h
  rcases List.mem_cons.1 h with rfl | h
  ·simp [sumL]
  have := ih h
  simp [sumL] at this ⊢; omega
end Go.Fl

namespace Go.Fl
open Classical
def itr (f : Nat → Nat) : Nat → Nat → Nat
 | 0, h => h
 | k + 1, h => f (itr f k h)
/-- The least of its cycle. -/
def Lead (f : Nat → Nat) (h : Nat) : Prop := ∀ k, h ≤ itr f k h
noncomputable def leads (n : Nat) (f : Nat → Nat) : Nat := (List.range n).countP fun h => decide (Lead f h)
structure Perm (n : Nat) (f : Nat → Nat) : Prop where
 lt : ∀ i, i < n → f i < n
 inj : ∀ i j, i < n → j < n → f i = f j → i = j
def invs : List Nat → Nat
 | [] => 0
 | x :: r => r.countP (fun y => decide (y < x)) + invs r
def cross (a b : List Nat) : Nat := (a.map fun x => b.countP fun y => decide (y < x)).sum
theorem CR {n : Nat} {f : Nat → Nat} (h : Perm n f) {i : Nat} (hi : i < n) : ∀ k, itr f k i < n
 | 0 => hi
 | k + 1 => h.lt _ (CR h hi k)
theorem DW (a b : List Nat) : invs (a ++ b) = invs a + invs b + cross a b := by
 induction a with
 | nil => simp [invs, cross]
 | cons x r ih =>
  simp only [List.cons_append, invs, ih, List.countP_append, cross, List.map_cons, List.sum_cons]
  omega
theorem Dz (a b : List Nat) (x : Nat) : cross a (x :: b) = cross a [x] + cross a b := by
 induction a with
 | nil => rfl
 | cons y r ih =>
  simp only [cross, List.map_cons, List.sum_cons] at ih ⊢
  rw [ih]
  simp only [List.countP_cons, List.countP_nil]
  omega
theorem Ir (a b c : List Nat) : cross a (b ++ c) = cross a b + cross a c := by
 induction b with
 | nil =>
  have : cross a [] = 0 := by
   unfold cross
   induction a with
   | nil => rfl
   | cons y r ih => simpa using ih
  rw [this]; simp
 | cons x r ih => rw [List.cons_append, Dz, ih, Dz a r]; omega
theorem GN {a : List Nat} {n : Nat} (h : ∀ x, x ∈ a → x < n) : cross a [n] = 0 := by
 induction a with
 | nil => rfl
 | cons y r ih =>
  have h1 := h y (by simp)
  have h2 := ih fun x hx => h x (by simp [hx])
  simp only [cross, List.map_cons, List.sum_cons, List.countP_cons, List.countP_nil] at h2 ⊢
  rw [h2, if_neg (by simp; omega)]
theorem JL {l : List Nat} {q : Nat} (h : q ∉ l) : l.countP (fun y => decide (y < q)) + l.countP (fun y => decide (q < y)) = l.length := by
 induction l with
 | nil => rfl
 | cons y r ih =>
  have h1 : y ≠ q := fun e => h (by simp [e])
  have := ih fun hm => h (by simp [hm])
  simp only [List.countP_cons, List.length_cons]
  by_cases c : y < q
  ·have : ¬ q < y := by omega
   simp [c, this]; omega
  have : q < y := by omega
  simp [c, this]; omega
theorem KJ {l : List Nat} {n : Nat} (h : ∀ x, x ∈ l → x < n) : l.countP (fun y => decide (y < n)) = l.length := by
 rw [List.countP_eq_length]; intro a ha; simp [h a ha]
theorem MA (b : List Nat) (q : Nat) : cross b [q] = b.countP fun y => decide (q < y) := by
 induction b with
 | nil => rfl
 | cons x r ih =>
  simp only [cross, List.map_cons, List.sum_cons] at ih ⊢
  rw [ih]
  simp only [List.countP_cons, List.countP_nil]
  by_cases c : q < x <;> simp [c]; omega
/-- The greatest number is taken out of its cycle. -/
def cutF (n p q : Nat) (f : Nat → Nat) : Nat → Nat := fun i => if i = p then q else f i
theorem JK {n p : Nat} {f : Nat → Nat} (h : Perm (n + 1) f) (hp : p < n) (hfp : f p = n) : Perm n (cutF n p (f n) f) := by
 have hq : f n < n := by
  have := h.lt n (by omega)
  have : f n ≠ n := fun e => by have := h.inj p n (by omega) (by omega) (by rw [hfp, e]); omega
  omega
 refine ⟨fun i hi => ?_, fun i j hi hj he => ?_⟩
 ·unfold cutF
  split
  ·exact hq
  have := h.lt i (by omega)
  have : f i ≠ n := fun e => by have := h.inj i p (by omega) (by omega) (by rw [e, hfp]); omega
  omega
 unfold cutF at he
 split at he <;> split at he
 ·omega
 ·have := h.inj n j (by omega) (by omega) he; omega
 ·have := h.inj i n (by omega) (by omega) he; omega
 exact h.inj i j (by omega) (by omega) he
theorem OS {n p : Nat} {f : Nat → Nat} (h : Perm (n + 1) f) (hp : p < n) (hfp : f p = n) {i : Nat} (hi : i < n) :
  (∀ k, ∃ j, itr (cutF n p (f n) f) k i = itr f j i) ∧ (∀ k, (itr f k i = n ∧ ∃ j, itr (cutF n p (f n) f) j i = p) ∨ ∃ j, itr f k i = itr (cutF n p (f n) f) j i) := by
 have hc := JK h hp hfp
 constructor
 ·intro k
  induction k with
  | zero => exact ⟨0, rfl⟩
  | succ k ih =>
   obtain ⟨j, hj⟩ := ih
   by_cases c : itr (cutF n p (f n) f) k i = p
   ·refine ⟨j + 2, ?_⟩
    show cutF n p (f n) f (itr (cutF n p (f n) f) k i) = f (f (itr f j i))
    rw [← hj, c]
    unfold cutF
    rw [if_pos rfl, hfp]
   refine ⟨j + 1, ?_⟩
   show cutF n p (f n) f (itr (cutF n p (f n) f) k i) = f (itr f j i)
   rw [← hj]
   unfold cutF at c ⊢
   rw [if_neg c]
 intro k
 induction k with
 | zero => exact .inr ⟨0, rfl⟩
 | succ k ih =>
  rcases ih with ⟨h1, j, hj⟩ | ⟨j, hj⟩
  ·right
   refine ⟨j + 1, ?_⟩
   show f (itr f k i) = cutF n p (f n) f (itr (cutF n p (f n) f) j i)
   rw [h1, hj]
   unfold cutF
   rw [if_pos rfl]
  have h4 : itr (cutF n p (f n) f) j i < n := CR hc hi j
  by_cases c : f (itr f k i) = n
  ·left
   have h3 : itr f k i = p := h.inj _ _ (by rw [hj]; omega) (by omega) (by rw [c, hfp])
   exact ⟨c, j, by rw [← hj, h3]⟩
  right
  refine ⟨j + 1, ?_⟩
  show f (itr f k i) = cutF n p (f n) f (itr (cutF n p (f n) f) j i)
  rw [← hj]
  unfold cutF
  rw [if_neg]
  intro e
  apply c; rw [e, hfp]
theorem NU {n p : Nat} {f : Nat → Nat} (h : Perm (n + 1) f) (hp : p < n) (hfp : f p = n) {i : Nat} (hi : i < n) : Lead (cutF n p (f n) f) i ↔ Lead f i := by
 obtain ⟨h1, h2⟩ := OS h hp hfp hi
 constructor
 ·intro hl k
  rcases h2 k with ⟨e, _⟩ | ⟨j, hj⟩
  ·omega
  rw [hj]; exact hl j
 intro hl k
 obtain ⟨j, hj⟩ := h1 k
 rw [hj]; exact hl j
theorem Jl {n : Nat} {f g : Nat → Nat} (h : ∀ i, i < n → (Lead f i ↔ Lead g i)) : leads n f = leads n g := by
 unfold leads
 apply List.countP_congr
 intro x hx
 have := h x (Rn.1 hx)
 simp [this]
theorem Gy (n : Nat) (f : Nat → Nat) : leads (n + 1) f = leads n f + if Lead f n then 1 else 0 := by
 unfold leads
 rw [List.range_succ, List.countP_append]
 simp
theorem Ks {n : Nat} {f : Nat → Nat} {l : List Nat} (h : Perm (n + 1) f) (hl : ∀ i, i ∈ l → i < n + 1) (p : Nat) (hp : p < n + 1) (hfp : f p = n) (hn : p ∉ l) : ∀ x, x ∈ l.map f → x < n := by
 intro x hx
 obtain ⟨i, hi, rfl⟩ := List.mem_map.1 hx
 have h1 := h.lt i (hl i hi)
 have : f i ≠ n := fun e => hn (by have := h.inj i p (hl i hi) hp (by rw [e, hfp]); rw [← this]; exact hi)
 omega
theorem DS : ∀ {a b : List Nat}, a.Nodup → (∀ x, x ∈ a → x ∈ b) → a.length ≤ b.length
 | [], b, _, _ => by simp
 | x :: r, b, hn, hs => by
  rw [List.nodup_cons] at hn
  have hx : x ∈ b := hs x (by simp)
  have ih := DS (a := r) (b := b.erase x) hn.2 (fun y hy => (List.mem_erase_of_ne (fun e => hn.1 (by rw [← e]; exact hy))).2 (hs y (by simp [hy])))
  have := List.length_erase_of_mem hx
  have : 0 < b.length := List.length_pos_of_mem hx
  simp; omega
theorem L9 {n : Nat} {f : Nat → Nat} (h : Perm n f) {y : Nat} (hy : y < n) : ∃ x, x < n ∧ f x = y := by
 apply Classical.byContradiction
 intro hn
 have hnd : ((List.range n).map f).Nodup := by
  unfold List.Nodup
  rw [List.pairwise_map]
  refine List.nodup_range.imp_of_mem fun {a b} ha hb hab he => hab (h.inj a b (Rn.1 ha) (Rn.1 hb) he)
 have hsub : ∀ x, x ∈ (List.range n).map f → x ∈ (List.range n).filter fun z => decide (z ≠ y) := by
  intro x hx
  obtain ⟨i, hi, rfl⟩ := List.mem_map.1 hx
  have hi' := Rn.1 hi
  exact List.mem_filter.2 ⟨Rn.2 (h.lt i hi'), by simp; exact fun e => hn ⟨i, hi', e⟩⟩
 have h1 := DS hnd hsub
 have h2 : ((List.range n).filter fun z => decide (z ≠ y)).length < n := by
  have h3 : ((List.range n).filter fun z => decide (z ≠ y)).length + ((List.range n).filter fun z => decide (z = y)).length = n := by
   have : ∀ l : List Nat, (l.filter fun z => decide (z ≠ y)).length + (l.filter fun z => decide (z = y)).length = l.length := by
    intro l
    induction l with
    | nil => rfl
    | cons a r ih =>
     by_cases c : a = y
     ·simp [c] at ih ⊢; omega
     simp [c] at ih ⊢; omega
   have h5 := this (List.range n)
   rw [List.length_range] at h5
   exact h5
  have h4 : 0 < ((List.range n).filter fun z => decide (z = y)).length := List.length_pos_of_mem (a := y) (List.mem_filter.2 ⟨Rn.2 hy, by simp⟩)
  omega
 rw [List.length_map, List.length_range] at h1
 omega
theorem Ib {f : Nat → Nat} {n : Nat} (h : f n = n) : ∀ k, itr f k n = n
 | 0 => rfl
 | k + 1 => by show f (itr f k n) = n; rw [Ib h k, h]
theorem Perm.cut {n : Nat} {f : Nat → Nat} (h : Perm (n + 1) f) (hf : f n = n) : Perm n f :=
 ⟨fun i hi => by
  have h1 := h.lt i (by omega)
  have : f i ≠ n := fun e => by have := h.inj i n (by omega) (by omega) (by rw [e, hf]); omega
  omega, fun i j hi hj he => h.inj i j (by omega) (by omega) he⟩
/-- Inversions and cycles. -/
theorem Dt : ∀ (n : Nat) (f : Nat → Nat), Perm n f → (invs ((List.range n).map f) + leads n f) % 2 = n % 2
 | 0, f, _ => rfl
 | n + 1, f, h => by
  obtain ⟨p, hp, hfp⟩ := L9 h (y := n) (by omega)
  by_cases hpn : p = n
  ·subst hpn
   have ih := Dt p f (h.cut hfp)
   have e1 : (List.range (p + 1)).map f = (List.range p).map f ++ [p] := by rw [List.range_succ, List.map_append]; simp [hfp]
   have hlp : Lead f p := fun k => by rw [Ib hfp k]; exact Nat.le_refl _
   rw [e1, DW, Gy, if_pos hlp]
   have e2 : cross ((List.range p).map f) [p] = 0 := GN (Ks h (fun i hi => by have := Rn.1 hi; omega) p (by omega) hfp (by simp))
   have e3 : invs [p] = 0 := rfl
   omega
  have hpl : p < n := by omega
  have hc := JK h hpl hfp
  have ih := Dt n _ hc
  have hl : leads n (cutF n p (f n) f) = leads n f := Jl fun i hi => NU h hpl hfp hi
  have hnl : ¬ Lead f n := fun hl => by
   have := hl 1
   have h2 : f n < n + 1 := h.lt n (by omega)
   have : f n ≠ n := fun e => hpn (h.inj p n hp (by omega) (by rw [hfp, e]))
   have h3 : n ≤ f n := hl 1
   omega
  rw [Gy, if_neg hnl]
  rw [hl] at ih
  obtain ⟨m, hm⟩ : ∃ m, n = p + 1 + m := ⟨n - (p + 1), by omega⟩
  generalize hA : (List.range p).map f = A
  generalize hB : (List.range' (p + 1) m).map f = B
  have hr1 : (List.range n) = List.range p ++ p :: List.range' (p + 1) m := by
   rw [List.range_eq_range', List.range_eq_range', hm, show p + 1 + m = p + (1 + m) by omega, ← List.range'_append_1, Nat.zero_add, Nat.add_comm 1 m, List.range'_succ]
  have e1 : (List.range (n + 1)).map f = A ++ n :: (B ++ [f n]) := by
   rw [List.range_succ, hr1, List.map_append, List.map_append, List.map_cons, hA, hB, hfp]; simp
  have e2 : (List.range n).map (cutF n p (f n) f) = A ++ f n :: B := by
   rw [hr1, List.map_append, List.map_cons]
   have c1 : (List.range p).map (cutF n p (f n) f) = A := by
    rw [← hA]; apply List.map_congr_left; intro i hi; have := Rn.1 hi; unfold cutF; rw [if_neg (by omega)]
   have c2 : (List.range' (p + 1) m).map (cutF n p (f n) f) = B := by
    rw [← hB]; apply List.map_congr_left; intro i hi; have := List.mem_range'_1.1 hi; unfold cutF; rw [if_neg (by omega)]
   rw [c1, c2]
   congr 2
   unfold cutF; rw [if_pos rfl]
  rw [e2] at ih
  rw [e1]
  have bA : ∀ x, x ∈ A → x < n := by rw [← hA]; exact Ks h (fun i hi => by have := Rn.1 hi; omega) p hp hfp (by simp)
  have bB : ∀ x, x ∈ B → x < n := by rw [← hB]; exact Ks h (fun i hi => by have := List.mem_range'_1.1 hi; omega) p hp hfp (fun hm3 => by have := List.mem_range'_1.1 hm3; omega)
  have hq : f n < n := by
   have := h.lt n (by omega)
   have : f n ≠ n := fun e => hpn (h.inj p n hp (by omega) (by rw [hfp, e]))
   omega
  have hqB : f n ∉ B := by
   rw [← hB]
   intro hm2
   obtain ⟨i, hi, he⟩ := List.mem_map.1 hm2
   have hi2 := List.mem_range'_1.1 hi
   have := h.inj i n (by omega) (by omega) he
   omega
  have k1 := JL hqB
  have k2 : (B ++ [f n]).countP (fun y => decide (y < n)) = (B ++ [f n]).length := KJ (by
   intro x hx
   rcases List.mem_append.1 hx with hx | hx
   ·exact bB x hx
   simp at hx; omega)
  have k3 : cross A (n :: (B ++ [f n])) = cross A B + cross A [f n] := by rw [Dz, Ir, GN bA]; omega
  have k4 : cross A (f n :: B) = cross A [f n] + cross A B := Dz _ _ _
  have k5 : invs (B ++ [f n]) = invs B + B.countP (fun y => decide (f n < y)) := by
   rw [DW, MA]
   have : invs [f n] = 0 := rfl
   omega
  rw [DW] at ih ⊢
  simp only [invs] at ih ⊢
  rw [k2, k3, k5]
  rw [k4] at ih
  simp only [List.length_append, List.length_singleton]
  omega
/-! ### neighbours change places in pairs -/
def swp (T : Nat → Bool) : Nat → List Nat → List Nat
 | i, x :: y :: r => if T i then y :: x :: swp T (i + 1) r else x :: y :: swp T (i + 1) r
 | _, l => l
theorem IP (T : Nat → Bool) : ∀ (i : Nat) (l : List Nat), (swp T i l).Perm l
 | i, x :: y :: r => by
  unfold swp
  have ih := IP T (i + 1) r
  split
  ·exact (List.Perm.swap x y _).trans ((ih.cons y).cons x)
  exact (ih.cons y).cons x
 | _, [] => .refl _
 | _, [_] => .refl _
theorem Jq (T : Nat → Bool) : ∀ (m i : Nat) (l : List Nat), l.Nodup → l.length = 2 * m → (invs (swp T i l) + (List.range' i m).countP T) % 2 = invs l % 2
 | 0, i, l, _, hl => by
  have : l = [] := Ro (by omega)
  subst this; rfl
 | m + 1, i, l, hn, hl => by
  match l, hn, hl with
  | [], _, hl => simp at hl
  | [_], _, hl => simp at hl; omega
  | x :: y :: r, hn, hl =>
   rw [List.nodup_cons, List.nodup_cons] at hn
   have ih := Jq T m (i + 1) r hn.2.2 (by simp at hl; omega)
   have hp := IP T (i + 1) r
   have hxy : x ≠ y := fun e => hn.1 (by simp [e])
   have c1 : ∀ z : Nat, (swp T (i + 1) r).countP (fun w => decide (w < z)) = r.countP (fun w => decide (w < z)) := fun z => hp.countP_eq _
   unfold swp
   rw [List.range'_succ, List.countP_cons]
   split
   ·rename_i ht
    simp only [invs, List.countP_cons, c1, ht, if_true]
    by_cases c : x < y
    ·have : ¬ y < x := by omega
     simp [c, this]; omega
    have : y < x := by omega
    simp [c, this]; omega
   rename_i ht
   simp only [invs, List.countP_cons, c1, ht]
   simp; omega
def twn (h : Nat) : Nat := if h % 2 = 0 then h + 1 else h - 1
theorem Lb (T : Nat → Bool) (s : Nat → Nat) : ∀ (m i : Nat), swp T i ((List.range' (2 * i) (2 * m)).map s) = (List.range' (2 * i) (2 * m)).map fun h => s (if T (h / 2) then twn h else h)
 | 0, i => rfl
 | m + 1, i => by
  have ih := Lb T s m (i + 1)
  rw [show 2 * (m + 1) = 2 * m + 1 + 1 by omega, List.range'_succ, List.range'_succ]
  simp only [List.map_cons]
  unfold swp
  rw [show 2 * i + 1 + 1 = 2 * (i + 1) by omega, ih]
  have e1 : 2 * i / 2 = i := by omega
  have e2 : (2 * i + 1) / 2 = i := by omega
  have e3 : twn (2 * i) = 2 * i + 1 := by unfold twn; rw [if_pos (by omega)]
  have e4 : twn (2 * i + 1) = 2 * i := by unfold twn; rw [if_neg (by omega)]; omega
  rw [e1, e2, e3, e4]
  split <;> rfl
theorem MP (m : Nat) : Perm (2 * m) twn :=
 ⟨fun i hi => by unfold twn; split <;> omega, fun i j hi hj he => by unfold twn at he; split at he <;> split at he <;> omega⟩
theorem Perm.nodup {n : Nat} {f : Nat → Nat} (h : Perm n f) : ((List.range n).map f).Nodup := by
 unfold List.Nodup
 rw [List.pairwise_map]
 exact List.nodup_range.imp_of_mem fun {a b} ha hb hab he => hab (h.inj a b (Rn.1 ha) (Rn.1 hb) he)
/-- A permutation on a part, the rest at rest. -/
def onP (c : Nat → Bool) (f : Nat → Nat) : Nat → Nat := fun h => if c h then f h else h
theorem Gr {n : Nat} {f : Nat → Nat} {c : Nat → Bool} (h : Perm n f) (hc : ∀ i, i < n → c (f i) = c i) : Perm n (onP c f) := by
 refine ⟨fun i hi => ?_, fun i j hi hj he => ?_⟩
 ·unfold onP; split
  ·exact h.lt i hi
  exact hi
 unfold onP at he
 split at he <;> split at he
 ·exact h.inj i j hi hj he
 ·rename_i a b; have := hc i hi; rw [he] at this; rw [this] at b; exact absurd a b
 ·rename_i a b; have := hc j hj; rw [← he] at this; rw [this] at a; exact absurd b a
 exact he
theorem H6 {n : Nat} {f : Nat → Nat} {c : Nat → Bool} (h : Perm n f) (hc : ∀ i, i < n → c (f i) = c i) {i : Nat} (hi : i < n) (hci : c i = true) : ∀ k, itr (onP c f) k i = itr f k i ∧ c (itr f k i) = true
 | 0 => ⟨rfl, hci⟩
 | k + 1 => by
  obtain ⟨h1, h2⟩ := H6 h hc hi hci k
  have h3 : onP c f (itr f k i) = f (itr f k i) := by unfold onP; rw [if_pos h2]
  exact ⟨by show onP c f (itr (onP c f) k i) = _; rw [h1, h3]; rfl, by show c (f (itr f k i)) = true; rw [hc _ (CR h hi k)]; exact h2⟩
theorem Hr {n : Nat} {f : Nat → Nat} {c : Nat → Bool} (h : Perm n f) (hc : ∀ i, i < n → c (f i) = c i) :
  leads n (onP c f) = (List.range n).countP (fun i => c i && decide (Lead f i)) + (List.range n).countP fun i => !c i := by
 unfold leads
 have key : ∀ l : List Nat, (∀ i, i ∈ l → i < n) → l.countP (fun i => decide (Lead (onP c f) i)) = l.countP (fun i => c i && decide (Lead f i)) + l.countP fun i => !c i := by
  intro l hl
  induction l with
  | nil => rfl
  | cons i r ih =>
   have ih' := ih fun j hj => hl j (by simp [hj])
   have hi := hl i (by simp)
   simp only [List.countP_cons, ih']
   by_cases hci : c i = true
   ·have e : Lead (onP c f) i ↔ Lead f i := by
     unfold Lead
     constructor
     ·intro hh k; rw [← (H6 h hc hi hci k).1]; exact hh k
     intro hh k; rw [(H6 h hc hi hci k).1]; exact hh k
    simp [hci, e]; omega
   have e : Lead (onP c f) i := fun k => by
    have : onP c f i = i := by unfold onP; rw [if_neg hci]
    rw [Ib this k]; exact Nat.le_refl _
   simp [hci, e]; omega
 exact key _ fun i hi => Rn.1 hi
/-- Of a part that both leave in place: its faces, its vertices and its edges are even together. -/
theorem JB {m : Nat} {s : Nat → Nat} {c : Nat → Bool} (hs : Perm (2 * m) s) (h1 : ∀ i, i < 2 * m → c (s i) = c i) (h2 : ∀ i, i < 2 * m → c (twn i) = c i) :
  ((List.range (2 * m)).countP (fun i => c i && decide (Lead (fun h => s (twn h)) i)) + (List.range (2 * m)).countP (fun i => c i && decide (Lead s i)) + (List.range m).countP fun e => c (2 * e)) % 2 = 0 := by
 have ht := MP m
 have hf : Perm (2 * m) fun h => s (twn h) := ⟨fun i hi => hs.lt _ (ht.lt i hi), fun i j hi hj he => ht.inj i j hi hj (hs.inj _ _ (ht.lt i hi) (ht.lt j hj) he)⟩
 have hfc : ∀ i, i < 2 * m → c (s (twn i)) = c i := fun i hi => by rw [h1 _ (ht.lt i hi), h2 i hi]
 have a1 := Dt _ _ (Gr hs h1)
 have a2 := Dt _ _ (Gr hf hfc)
 rw [Hr hs h1] at a1
 rw [Hr hf hfc] at a2
 have e1 : (List.range (2 * m)).map (onP c fun h => s (twn h)) = swp (fun e => c (2 * e)) 0 ((List.range (2 * m)).map (onP c s)) := by
  have := Lb (fun e => c (2 * e)) (onP c s) m 0
  rw [Nat.mul_zero, ← List.range_eq_range'] at this
  rw [this]
  apply List.map_congr_left
  intro h hh
  have hlt := Rn.1 hh
  have h3 : c (2 * (h / 2)) = c h := by
   by_cases hp : h % 2 = 0
   ·rw [show 2 * (h / 2) = h by omega]
   have e : twn h = 2 * (h / 2) := by unfold twn; rw [if_neg hp]; omega
   rw [← e]; exact h2 h hlt
  rw [h3]
  unfold onP
  by_cases hc : c h = true
  ·rw [if_pos hc, if_pos hc, if_pos (by rw [h2 h hlt]; exact hc)]
  rw [if_neg hc, if_neg hc, if_neg hc]
 have a3 := Jq (fun e => c (2 * e)) m 0 _ (Gr hs h1).nodup (by simp)
 rw [← e1, ← List.range_eq_range'] at a3
 omega
end Go.Fl

namespace Go.Fl
open Classical
theorem Dr (f : Nat → Nat) (x : Nat) : ∀ a b, itr f (a + b) x = itr f a (itr f b x)
 | 0, b => by rw [Nat.zero_add]; rfl
 | a + 1, b => by rw [Nat.succ_add]; show f _ = f _; rw [Dr f x a b]
theorem LD {n : Nat} {f : Nat → Nat} (h : Perm n f) {x y : Nat} (hx : x < n) (hy : y < n) : ∀ k, itr f k x = itr f k y → x = y
 | 0, e => e
 | k + 1, e => LD h hx hy k (h.inj _ _ (CR h hx k) (CR h hy k) e)
theorem OK {n : Nat} {f : Nat → Nat} (h : Perm n f) {x : Nat} (hx : x < n) : ∃ k, 0 < k ∧ itr f k x = x := by
 apply Classical.byContradiction
 intro hno
 have hnd : ((List.range (n + 1)).map fun k => itr f k x).Nodup := by
  unfold List.Nodup
  rw [List.pairwise_map, List.pairwise_iff_getElem]
  intro i j hi hj hij e
  simp only [List.getElem_range] at e
  have e2 : itr f i (itr f (j - i) x) = itr f i x := by rw [← Dr, show i + (j - i) = j by omega]; exact e.symm
  exact hno ⟨j - i, by omega, LD h (CR h hx _) hx i e2⟩
 have := DS (b := List.range n) hnd (fun y hy => by
  obtain ⟨k, _, rfl⟩ := List.mem_map.1 hy
  exact Rn.2 (CR h hx k))
 rw [List.length_map, List.length_range, List.length_range] at this
 omega
theorem GB {n : Nat} {f : Nat → Nat} (h : Perm n f) {x y : Nat} {q : Nat} (hx : x < n) (e : itr f q x = y) : ∃ r, itr f r y = x := by
 obtain ⟨k, hk, hr⟩ := OK h hx
 have hm : ∀ m, itr f (k * m) x = x := by
  intro m
  induction m with
  | zero => rfl
  | succ m ih => rw [Nat.mul_succ, Dr, hr, ih]
 have hq : q ≤ k * q := Nat.le_mul_of_pos_left _ hk
 refine ⟨k * q - q, ?_⟩
 rw [← e, ← Dr, show k * q - q + q = k * q by omega, hm]
/-- Seen by the walks that began below h. -/
def SeenB (f : Nat → Nat) (h x : Nat) : Prop := ∃ j q, j < h ∧ itr f q j = x
theorem Hf {n : Nat} {f : Nat → Nat} (h : Perm n f) {x : Nat} (hx : x < n) : SeenB f x x ↔ ¬ Lead f x := by
 constructor
 ·rintro ⟨j, q, hj, e⟩ hl
  obtain ⟨r, hr⟩ := GB h (by omega) e
  have := hl r
  omega
 intro hl
 simp only [Lead, Classical.not_forall, Nat.not_le] at hl
 obtain ⟨k, hk⟩ := hl
 obtain ⟨r, hr⟩ := GB h hx rfl (q := k)
 exact ⟨_, r, hk, hr⟩
/-- A walk round that comes upon what is seen. -/
theorem LV {n : Nat} {f : Nat → Nat} (h : Perm n f) {x t : Nat} (hx : x < n) (ht : 0 < t) (hns : ¬ SeenB f x x) (hs : SeenB f x (itr f t x) ∨ ∃ i, i < t ∧ itr f i x = itr f t x) :
  ∀ q, ∃ i, i < t ∧ itr f i x = itr f q x := by
 have hcl : ∃ i, i < t ∧ itr f i x = itr f t x := by
  rcases hs with ⟨j, q, hj, e⟩ | hs
  ·exfalso
   obtain ⟨r, hr⟩ := GB h hx rfl (q := t)
   exact hns ⟨j, r + q, hj, by rw [Dr, e, hr]⟩
  exact hs
 intro q
 induction q with
 | zero => exact ⟨0, ht, rfl⟩
 | succ q ih =>
  obtain ⟨i, hi, e⟩ := ih
  have e2 : itr f (i + 1) x = itr f (q + 1) x := by show f _ = f _; rw [e]
  by_cases h1 : i + 1 < t
  ·exact ⟨i + 1, h1, e2⟩
  obtain ⟨i', hi', e'⟩ := hcl
  exact ⟨i', hi', by rw [e', show t = i + 1 by omega, e2]⟩
theorem GZ {f : Nat → Nat} {x t : Nat} (hall : ∀ q, ∃ i, i < t ∧ itr f i x = itr f q x) (y : Nat) : SeenB f (x + 1) y ↔ SeenB f x y ∨ ∃ i, i < t ∧ itr f i x = y := by
 constructor
 ·rintro ⟨j, q, hj, e⟩
  rcases Re.1 hj with hj | rfl
  ·exact .inl ⟨j, q, hj, e⟩
  obtain ⟨i, hi, e2⟩ := hall q
  exact .inr ⟨i, hi, e2.trans e⟩
 rintro (⟨j, q, hj, e⟩ | ⟨i, hi, e⟩)
 ·exact ⟨j, q, by omega, e⟩
 exact ⟨x, i, by omega, e⟩
theorem GY {f : Nat → Nat} {x : Nat} (hs : SeenB f x x) (y : Nat) : SeenB f (x + 1) y ↔ SeenB f x y := by
 constructor
 ·rintro ⟨j, q, hj, e⟩
  rcases Re.1 hj with hj | rfl
  ·exact ⟨j, q, hj, e⟩
  obtain ⟨j', q', hj', e'⟩ := hs
  exact ⟨j', q + q', hj', by rw [Dr, e', e]⟩
 rintro ⟨j, q, hj, e⟩; exact ⟨j, q, by omega, e⟩
end Go.Fl

namespace Go.Fl
open Go Go.Proofs
open Classical
/-- The step along a face. -/
def phi (f : Nat → Int) (h : Nat) : Nat := (f (twn h)).toNat
structure FaI where
 h : Nat
 g : Nat → Bool
 fs : RL
 v : Value
structure FaJ where
 t : Nat
 g : Nat → Bool
 v : Value
structure FaD (n : Nat) (f : Nat → Int) (j : FaI) : Prop where
 le : j.h ≤ n
 seen : ∀ x, x < n → (j.g x = true ↔ SeenB (phi f) j.h x)
 heads : j.fs.map (fun p => p.2.head?) = ((List.range j.h).filter fun x => decide (Lead (phi f) x)).map fun (x : Nat) => some (x : Int)
 short : ∀ p, p ∈ j.fs → p.2.length ≤ n
structure FaW (n : Nat) (f : Nat → Int) (h : Nat) (g0 : Nat → Bool) (j : FaJ) : Prop where
 nd : ((List.range j.t).map fun i => itr (phi f) i h).Nodup
 seen : ∀ x, x < n → (j.g x = true ↔ g0 x = true ∨ ∃ i, i < j.t ∧ itr (phi f) i h = x)
 new : 0 < j.t → ¬ (g0 h = true)
def faceL (f : Nat → Int) (h t : Nat) : List Int := (List.range t).map fun i => ((itr (phi f) i h : Nat) : Int)
theorem MK {N : Int} {es : List Pr} {rs : List (List Int)} {va v : Value} {w : World} (hg : PrV w va es) (hl : LsV w v rs)
  (hperm : ∀ f, RotL N es rs → NxOk rs rs.length f → Perm (es.length * 2) (phi f) ∧ ∀ h, h < es.length * 2 → 0 ≤ f h) :
  Calls Tryz.prog 152 #[.agg #[.int .i64 N, va], v] w (Ret w [] fun r M =>
   (RotL N es rs ∧ ∃ v fs f, r = .tuple #[v, .int .i64 0] ∧ NxOk rs rs.length f ∧ FaD (es.length * 2) f ⟨es.length * 2, fun _ => true, fs, v⟩ ∧ M = slc v 44 1 (rowsV fs) :: rowsC 3 fs) ∨
   (¬ RotL N es rs ∧ M = [] ∧ ∃ e, r = .tuple #[.slice none 0 0, .int .i64 e] ∧ e ≠ 0)) := by
 refine Ao (args := [_, _]) (L := []) Tryz.func152 rfl Tryz.ntmps152 rfl (Own.start _ _) ?_
 refine Zs ?_
 refine Zw (AX (cs := #[.int .i64 N, va]) rfl rfl rfl) fun g2 => ?_
 iterate 2 refine Za ?_
 refine Zx <| Zs ?_
 refine Zu (Aq (vs := [_, _]) rfl rfl Bs Bd rfl (Ai rfl)) ?_
 refine Zm ?_
 refine Seq.rel rfl rfl (Am QE rfl rfl rfl (fun w' hw => K0 (hg.keep0 hw) (hl.keep0 hw))) ?_
 intro v16 L16 hC16
 obtain ⟨sv, e, rfl, hD16⟩ : ∃ sv e, v16 = .tuple #[sv, .int .i64 e] ∧ ((e = 0 ∧ RotL N es rs ∧ ∃ g f, sv = .slice (some ⟨g, 0, none⟩) (es.length * 2) (es.length * 2) ∧ NxOk rs rs.length f ∧ L16 = [blk g 3 (ints (tab (es.length * 2) f)).toArray]) ∨ (¬ RotL N es rs ∧ e ≠ 0)) := by
  rcases hC16 with ⟨hok, g, f, rfl, h1, h2⟩ | ⟨hno, _, e, rfl, hne⟩
  ·exact ⟨_, _, rfl, .inl ⟨rfl, hok, g, f, rfl, h1, h2⟩⟩
  exact ⟨_, _, rfl, .inr ⟨hno, hne⟩⟩
 clear hC16
 refine Zm ?_
 iterate 2 refine Ze ?_
 iterate 2 refine Za ?_
 refine Zx <| DC.seq <| Zs ?_
 refine Zm ?_
 refine Zo (BQ rfl rfl rfl) ?_
 refine Zx ?_
 refine Zd (fun c2 => ?_) fun c2 => ?_
 ·refine Zs ?_
  refine Zm ?_
  iterate 2 refine Za ?_
  refine Zx <| DC.ret <| Aa ?_
  have hne : e ≠ 0 := by simpa using c2
  have hno := (hD16.resolve_left (fun h => hne h.1)).1
  refine Fin.weak (E' := [(4, _), (5, _)]) ⟨rfl, rfl, trivial⟩ .nil ?_
  refine AI (.inl rfl) rfl rfl rfl ?_
  exact .inr ⟨hno, rfl, e, rfl, hne⟩
 refine DC.skip <| Fin.then <| DC.seq ?_
 have he0 : e = 0 := by simpa using c2
 obtain ⟨_, hok, gn, f, rfl, hnx, rfl⟩ := hD16.resolve_right (fun h => h.2 he0)
 simp only [zs]
 obtain ⟨hP, hf0⟩ := hperm f hok hnx
 have hfew := hok.1.few
 obtain ⟨n, hn⟩ : ∃ n, n = es.length * 2 := ⟨_, rfl⟩
 rw [← hn] at hP hf0 ⊢
 have hn1 : n ≤ 8388608 := by omega
 refine DC.region ?_
 refine Zm ?_
 refine Zn Rt ?_
 refine Zw (Cb (k := n) rfl rfl rfl Rz IF Q7 PL rfl (by omega) (by omega) (EM _)) fun g24 => ?_
 refine Za ?_
 refine Zx <| Zs ?_
 refine Za ?_
 refine Zx <| DC.seq <| Zs ?_
 refine Zm ?_
 refine Zn Rt ?_
 refine Zm ?_
 refine Zx <| DC.block ?_
 refine DC.own (fun w hw => AU (t := 44) (m := 1) hw) ?_
 refine DC.loop (ι := FaI) (fun j => FaD n f j)
  (fun j => [(6, .slice (some ⟨gn, 0, none⟩) n n), (8, .slice (some ⟨g24, 0, none⟩) n n), (9, j.v), (25, .slice (some ⟨gn, 0, none⟩) n n), (26, .int .i64 n), (27, .int .i64 j.h)])
  (fun j => slc j.v 44 1 (rowsV j.fs) :: blk g24 4 (bls n j.g).toArray :: blk gn 3 (ints (tab n f)).toArray :: rowsC 3 j.fs) (fun j => n - j.h) ⟨0, fun _ => false, [], .slice none 0 0⟩
  ⟨Nat.zero_le _, fun x _ => ⟨fun h => by simp at h, fun ⟨j, q, h, _⟩ => absurd h (Rs _)⟩, by simp, by simp⟩ ⟨rfl, rfl, rfl, rfl, rfl, rfl, trivial⟩ (.cons 0 rfl (.cons 0 rfl (.cons 0 rfl .nil))) ?_
 rintro ⟨h, g, fs, v9⟩ hD
 have hDle := hD.le
 have hDse := hD.seen
 dsimp only at hDle hDse ⊢
 refine Zs ?_
 refine Zc ?_
 refine Zx <| DC.seq ?_
 refine Zd (fun c7 => ?_) fun c7 => ?_
 ·have hlt : h < n := by simpa using c7
  refine DC.skip <| Fin.then <| DC.seq <| DC.block <| Zs ?_
  refine Zm ?_
  refine Za ?_
  refine Zx <| Zs ?_
  refine Za ?_
  refine Zx <| DC.seq <| Zs ?_
  refine Zm ?_
  refine Za ?_
  refine Zx <| DC.block ?_
  refine DC.own (fun w hw => AU (t := 3) (m := 1) hw) ?_
  refine DC.loop (ι := FaJ) (fun j => FaW n f h g j)
   (fun j => [(6, .slice (some ⟨gn, 0, none⟩) n n), (8, .slice (some ⟨g24, 0, none⟩) n n), (9, v9), (11, j.v), (12, .int .i64 (itr (phi f) j.t h : Nat)), (25, .slice (some ⟨gn, 0, none⟩) n n), (26, .int .i64 n), (27, .int .i64 h)])
   (fun j => slc j.v 3 1 (ints (faceL f h j.t)) :: slc v9 44 1 (rowsV fs) :: blk g24 4 (bls n j.g).toArray :: blk gn 3 (ints (tab n f)).toArray :: rowsC 3 fs) (fun j => n - j.t) ⟨0, g, .slice none 0 0⟩
   ⟨by simp, fun x hx => by simp, fun h => absurd h (Nat.lt_irrefl _)⟩ ⟨rfl, rfl, rfl, rfl, rfl, rfl, rfl, rfl, trivial⟩ (Pick.all _) ?_
  rintro ⟨t, g', v11⟩ hW
  have hWse := hW.seen
  have hk := CR hP hlt t
  dsimp only at hWse ⊢
  have htn : t ≤ n := by
   have := DS (b := List.range n) hW.nd (fun y hy => by obtain ⟨q, _, rfl⟩ := List.mem_map.1 hy; exact Rn.2 (CR hP hlt q))
   simpa using this
  obtain ⟨k, hkk⟩ : ∃ k, k = itr (phi f) t h := ⟨_, rfl⟩
  rw [← hkk] at hk ⊢
  have htw : twn k < n := by unfold twn; split <;> omega
  have hval : (ints (tab n f)).toArray[twn k]? = some (.int .i64 ((phi f k : Nat) : Int)) := by
   rw [Bm htw]; congr 2; exact (Int.toNat_of_nonneg (hf0 _ htw)).symm
  have exor : (if (k : Int) % 2 = 0 then (k : Int) + 1 else (k : Int) - 1) = ((twn k : Nat) : Int) := by unfold twn; split <;> split <;> omega
  refine DC.seq <| Zs ?_
  iterate 2 refine Zm ?_
  refine Zi Rz IF ?_
  refine Zu (Ak rfl rfl MO (A8 (FY g' hk))) ?_
  refine Zo (Bb rfl rfl) ?_
  refine Zx ?_
  refine Zd (fun c11 => ?_) fun c11 => ?_
  ·have hgk : ¬ (g' k = true) := by simpa using c11
   have hkn : ¬ ∃ i, i < t ∧ itr (phi f) i h = k := fun h1 => hgk ((hWse k hk).2 (.inr h1))
   have hnd1 : ((List.range (t + 1)).map fun i => itr (phi f) i h).Nodup := by
    rw [List.range_succ, List.map_append, List.nodup_append]
    refine ⟨hW.nd, by simp, fun a ha b hb e => ?_⟩
    simp at hb; subst hb; subst e
    obtain ⟨q, hq, e⟩ := List.mem_map.1 ha
    exact hkn ⟨q, Rn.1 hq, by rw [hkk]; exact e⟩
   have htn1 : t + 1 ≤ n := by
    have := DS (b := List.range n) hnd1 (fun y hy => by obtain ⟨q, _, rfl⟩ := List.mem_map.1 hy; exact Rn.2 (CR hP hlt q))
    simpa using this
   refine DC.skip <| Fin.then <| DC.seq <| DC.block <| Zs ?_
   iterate 2 refine Zm ?_
   refine Zi Rz IF ?_
   refine Zy (AB (cs' := (bls n (updB g' k true)).toArray) rfl rfl rfl IF rfl (by simp; omega) (FX g' true)) ?_
   refine Zx <| DC.region ?_
   iterate 2 refine Zm ?_
   refine Zw (AM (cs := #[_]) rfl rfl Rt AN Cg rfl (by decide) (by decide) rfl rfl) fun g46 => ?_
   refine Seq.gen rfl rfl (AR rfl rfl rfl Rt AN E5 Cg rfl (by decide) (by decide) (fun w hw => hw.sub (Rg ..)) (.inl ⟨_, _, rfl, Ai rfl⟩) rfl (BE [(k : Int)] []) (by simp [faceL]; omega)) ?_
   rintro v47 _ rfl
   refine Za ?_
   refine Seq.nil <| Fin.inBlock <| Fin.then <| DC.region ?_
   iterate 2 refine Zm ?_
   refine Zo (H1 rfl rfl rfl (by omega)) ?_
   rw [exor]
   refine Zo (Aw (ad' := ⟨gn, twn k, none⟩) rfl rfl rfl Rt AN (by omega) (by omega) (by rw [Az]; rfl)) ?_
   refine Zu (Ak rfl rfl AJ (A8 hval)) ?_
   refine Za ?_
   refine Seq.nil ?_
   refine Fin.again ⟨t + 1, updB g' k true, v47⟩ (by dsimp only; omega) ⟨hnd1, ?_, ?_⟩ ⟨rfl, rfl, rfl, rfl, by rw [hkk]; rfl, rfl, rfl, rfl, trivial⟩ (.cons' 0 rfl (by dsimp only; unfold faceL; rw [List.range_succ, List.map_append, Bj, hkk]; rfl) (Pick.all _))
   ·intro x hx
    dsimp only
    unfold updB
    split
    ·rename_i e; subst e
     simp only [true_iff]
     exact .inr ⟨t, by omega, hkk.symm⟩
    rename_i e
    rw [hWse x hx]
    constructor
    ·rintro (h1 | ⟨i, hi, h1⟩)
     ·exact .inl h1
     exact .inr ⟨i, by omega, h1⟩
    rintro (h1 | ⟨i, hi, h1⟩)
    ·exact .inl h1
    rcases Re.1 hi with hi | rfl
    ·exact .inr ⟨i, hi, h1⟩
    exact absurd (by rw [hkk, h1]) (Ne.symm e)
   intro _ hgh
   by_cases h0 : 0 < t
   ·exact hW.new h0 hgh
   have : k = h := by rw [hkk, show t = 0 by omega]; rfl
   exact hgk ((hWse k hk).2 (.inl (by rw [this]; exact hgh)))
  refine DC.exit <| Ad <| Ad <| Ag <| Fin.then <| DC.seq ?_
  have hgk : g' k = true := by simpa using c11
  refine DC.slcs (i := 0) rfl (by simp [faceL]; omega) ?_
  rintro A11 c11' rfl _
  have hfl : (faceL f h t).length = t := by simp [faceL]
  rw [hfl]
  refine DC.region ?_
  refine Zm ?_
  refine Zn Rt ?_
  refine Zo (Bx rfl rfl rfl) ?_
  refine Zx ?_
  refine Zd (fun c15 => ?_) fun c15 => ?_
  ·have ht0 : 0 < t := by simp at c15; omega
   have hns : ¬ SeenB (phi f) h h := fun h1 => hW.new ht0 ((hDse h hlt).2 h1)
   have hlead : Lead (phi f) h := by
    apply Classical.byContradiction
    intro h1; exact hns ((Hf hP hlt).2 h1)
   have hall := LV hP hlt ht0 hns (by
    rw [← hkk]
    rcases (hWse k hk).1 hgk with h1 | h1
    ·exact .inl ((hDse k hk).1 h1)
    exact .inr h1)
   have hfslen : fs.length ≤ h := by
    have h1 := congrArg List.length hD.heads
    simp only [List.length_map] at h1
    have h2 := List.length_filter_le (fun x => decide (Lead (phi f) x)) (List.range h)
    simp at h2; omega
   refine DC.region ?_
   iterate 2 refine Zm ?_
   refine Zw (AM (cs := #[_]) rfl rfl Rw Cn DJ rfl (by decide) (by decide) rfl rfl) fun g53 => ?_
   refine Seq.gen rfl rfl (AR rfl rfl rfl Rw Cn KT DJ rfl (by decide) (by decide) (news := [.slice A11 t c11']) (k := 1) (fun w hw => (hw.sub (Rg ..)).perm (.swap _ _ _)) (.inl ⟨_, _, rfl, Ai rfl⟩) rfl (fun u hu => by rw [List.mem_singleton.1 hu]; rfl) (by simp; omega)) ?_
   rintro v54 _ rfl
   refine Za ?_
   refine Seq.nil <| Fin.inBlock <| Fin.then <| DC.region ?_
   refine Zp ?_
   refine Zm ?_
   refine Seq.nil ?_
   refine Fin.own (M := slc v54 44 1 (rowsV (fs ++ [(.slice A11 t c11', faceL f h t)])) :: blk g24 4 (bls n g').toArray :: blk gn 3 (ints (tab n f)).toArray :: rowsC 3 (fs ++ [(.slice A11 t c11', faceL f h t)])) (fun w hw => ?_) ?_
   ·have e1 : rowsV (fs ++ [(.slice A11 t c11', faceL f h t)]) = rowsV fs ++ [.slice A11 t c11'] := by simp [rowsV]
    have e2 : rowsC 3 (fs ++ [(.slice A11 t c11', faceL f h t)]) = rowsC 3 fs ++ [slc (.slice A11 t c11') 3 1 (ints (faceL f h t))] := by simp [rowsC]
    rw [e1, e2]
    refine hw.perm ?_
    refine List.Perm.cons _ ?_
    have := Rr (l₁ := blk g24 4 (bls n g').toArray :: blk gn 3 (ints (tab n f)).toArray :: rowsC 3 fs) (l₂ := [slc (.slice A11 t c11') 3 1 (ints (faceL f h t))])
    simpa using this
   refine Fin.again ⟨h + 1, g', fs ++ [(.slice A11 t c11', faceL f h t)], v54⟩ (by dsimp only; omega) ⟨by dsimp only; omega, ?_, ?_, ?_⟩ ⟨rfl, rfl, rfl, rfl, rfl, rfl, trivial⟩ (Pick.all _)
   ·intro x hx
    dsimp only
    rw [hWse x hx, hDse x hx, GZ hall]
   ·dsimp only
    rw [List.range_succ, List.filter_append, List.map_append, List.map_append, hD.heads]
    congr 1
    have : (faceL f h t).head? = some (h : Int) := by
     obtain ⟨t', rfl⟩ : ∃ t', t = t' + 1 := ⟨t - 1, by omega⟩
     simp [faceL, List.range_succ_eq_map, itr]
    simp [hlead, this]
   intro p hp
   rw [List.mem_append] at hp
   rcases hp with hp | hp
   ·exact hD.short p hp
   simp at hp; subst hp; dsimp only; omega
  refine DC.skip <| Fin.inBlock <| Fin.then <| DC.region ?_
  refine Zp ?_
  refine Zm ?_
  refine Seq.nil ?_
  have ht0 : t = 0 := by simp at c15; omega
  subst ht0
  have hkh : k = h := hkk
  subst hkh
  have hgx : ∀ x, x < n → (g' x = true ↔ g x = true) := fun x hx => by rw [hWse x hx]; simp
  have hs : SeenB (phi f) k k := (hDse k hlt).1 ((hgx k hlt).1 hgk)
  have hnl : ¬ Lead (phi f) k := (Hf hP hlt).1 hs
  refine Fin.own (fun w hw => hw.sub (Rg ..)) ?_
  refine Fin.again ⟨k + 1, g', fs, v9⟩ (by dsimp only; omega) ⟨by dsimp only; omega, ?_, ?_, hD.short⟩ ⟨rfl, rfl, rfl, rfl, rfl, rfl, trivial⟩ (Pick.all _)
  ·intro x hx
   dsimp only
   rw [hgx x hx, hDse x hx, GY hs]
  dsimp only
  rw [List.range_succ, List.filter_append, List.map_append, hD.heads]
  simp [hnl]
 refine DC.exit <| Ad <| Ad <| Ag <| Fin.then <| Zs ?_
 refine Zm ?_
 iterate 2 refine Za ?_
 refine Zx <| DC.ret ?_
 have hhn : h = n := by simp at c7; omega
 subst hhn
 refine Fin.own (M := slc v9 44 1 (rowsV fs) :: rowsC 3 fs) (fun w hw => hw.sub (.cons_cons _ (.cons _ (.cons _ (List.Sublist.refl _))))) ?_
 refine AI (.inl rfl) rfl rfl rfl ?_
 refine .inl ⟨hok, v9, fs, f, rfl, hnx, ?_, rfl⟩
 exact ⟨Nat.le_refl _, fun x hx => ⟨fun _ => ⟨x, 0, hx, rfl⟩, fun _ => rfl⟩, hD.heads, hD.short⟩
end Go.Fl

namespace Go.Fl
open Go Go.Proofs
theorem Fe : ∀ {a b : List Int}, a.Nodup → (∀ x, x ∈ a → x ∈ b) → a.length ≤ b.length
 | [], b, _, _ => by simp
 | x :: r, b, hn, hs => by
  rw [List.nodup_cons] at hn
  have hx : x ∈ b := hs x (by simp)
  have ih := Fe (a := r) (b := b.erase x) hn.2 (fun y hy => (List.mem_erase_of_ne (fun e => hn.1 (by rw [← e]; exact hy))).2 (hs y (by simp [hy])))
  have := List.length_erase_of_mem hx
  have : 0 < b.length := List.length_pos_of_mem hx
  simp; omega
theorem OF {i j n : Nat} (hi : i < n) (hj : j < n) (h : (i + 1) % n = (j + 1) % n) : i = j := by
 have e : ∀ k, k < n → (k + 1) % n = if k + 1 = n then 0 else k + 1 := by
  intro k hk
  split
  ·rename_i h1; rw [h1, Nat.mod_self]
  exact Nat.mod_eq_of_lt (by omega)
 rw [e i hi, e j hj] at h
 split at h <;> split at h <;> omega
theorem El {N : Int} {es : List Pr} {rs : List (List Int)} (hok : RotL N es rs) {h : Nat} (hh : h < es.length * 2) :
  ∃ (v : Nat) (l : List Int) (i : Nat), rs[v]? = some l ∧ l[i]? = some (h : Int) ∧ fromV es h = v := by
 obtain ⟨hV, hN, hrow⟩ := hok
 obtain ⟨e, a, he, hcase⟩ := B4 (es := es) (h := (h : Int)) (by omega) (by omega)
 have ho := hV.ok e a he
 have h1 := ho.lo
 have h2 := ho.lt
 have h3 := ho.hi
 have hb : 0 ≤ fromV es h ∧ fromV es h < N := by
  rcases hcase with ⟨_, h4, _⟩ | ⟨_, h4, _⟩ <;> rw [h4] <;> omega
 obtain ⟨v, hv⟩ := Rj hb.1
 obtain ⟨l, hl⟩ : ∃ l, rs[v]? = some l := ⟨_, Q8 (by omega)⟩
 obtain ⟨hfr, hnd, hcnt⟩ := hrow v l hl
 have hmem : (h : Int) ∈ l := by
  apply Classical.byContradiction
  intro hno
  have hle := Fe (a := (h : Int) :: l) (b := outs es v) (List.nodup_cons.2 ⟨hno, hnd⟩) (fun x hx => by
   rcases List.mem_cons.1 hx with rfl | hx
   ·exact (Bh hV).2 ⟨by omega, by omega, hv⟩
   exact (Bh hV).2 (hfr x hx))
  unfold cnt at hcnt
  simp only [List.length_cons] at hle
  omega
 obtain ⟨i, hi⟩ := Rf.1 hmem
 exact ⟨v, l, i, hl, hi, hv⟩
theorem H7 {N : Int} {es : List Pr} {rs : List (List Int)} {f : Nat → Int} (hok : RotL N es rs) (hnx : NxOk rs rs.length f) : Perm (es.length * 2) (phi f) ∧ ∀ h, h < es.length * 2 → 0 ≤ f h := by
 have hrow := hok.2.2
 have next : ∀ {v : Nat} {l : List Int} {i h : Nat}, rs[v]? = some l → l[i]? = some (h : Int) → l[(i + 1) % l.length]? = some (f h) ∧ 0 ≤ f h ∧ f h < es.length * 2 ∧ fromV es (f h) = v := by
  intro v l i h hl hi
  have h1 := hnx v l i h (Q9.1 hl).1 hl hi
  rw [Rb] at h1
  obtain ⟨h2, h3, h4⟩ := (hrow v l hl).1 _ (Rc h1)
  exact ⟨h1, h2, h3, h4⟩
 have hf0 : ∀ h, h < es.length * 2 → 0 ≤ f h := fun h hh => by
  obtain ⟨v, l, i, hl, hi, _⟩ := El hok hh
  exact (next hl hi).2.1
 have htw : ∀ h, h < es.length * 2 → twn h < es.length * 2 := fun h hh => by unfold twn; split <;> omega
 have htinj : ∀ a b, twn a = twn b → a = b := fun a b e => by unfold twn at e; split at e <;> split at e <;> omega
 refine ⟨⟨fun h hh => ?_, fun a b ha hb e => ?_⟩, hf0⟩
 ·obtain ⟨v, l, i, hl, hi, _⟩ := El hok (htw h hh)
  have := next hl hi
  unfold phi; omega
 obtain ⟨v, l, i, hl, hi, hv⟩ := El hok (htw a ha)
 obtain ⟨v', l', i', hl', hi', hv'⟩ := El hok (htw b hb)
 obtain ⟨n1, n2, n3, n4⟩ := next hl hi
 obtain ⟨m1, m2, m3, m4⟩ := next hl' hi'
 have hff : f (twn a) = f (twn b) := by unfold phi at e; omega
 have hvv : v = v' := by rw [hff] at n4; omega
 subst hvv
 rw [hl] at hl'; cases hl'
 have hnd := (hrow v l hl).2.1
 have hil := (Q9.1 hi).1
 have hil' := (Q9.1 hi').1
 have hmm := (List.getElem?_inj (Nat.mod_lt _ (by omega)) hnd).1 (n1.trans ((congrArg some hff).trans m1.symm))
 have hii := OF hil hil' hmm
 subst hii
 rw [hi] at hi'
 have : twn a = twn b := by have := Option.some.inj hi'; omega
 exact htinj a b this
open Classical
def tl (a b c : Nat) : Value := .agg #[.int .i64 a, .int .i64 b, .int .i64 c]
/-- How many vertices below i bear the label x. -/
def cnV (f : Nat → Int) (i : Nat) (x : Int) : Nat := (List.range i).countP fun j => decide (f j = x)
/-- How many of the first i edges, of the first i faces. -/
def cnE (f : Nat → Int) (es : List Pr) (i : Nat) (x : Int) : Nat := (es.take i).countP fun e => decide (f e.1.toNat = x)
def headU (es : List Pr) (h : Int) : Nat := ((es[(h / 2).toNat]?).getD (0, 0)).1.toNat
def cnF (f : Nat → Int) (es : List Pr) (hs : List Int) (i : Nat) (x : Int) : Nat := (hs.take i).countP fun h => decide (f (headU es h) = x)
def Tal (m : List (Int × Value)) (a b c : Int → Nat) : Prop := (m.map (·.1)).Nodup ∧ ∀ x, lkM m x = if a x = 0 then none else some (tl (a x) (b x) (c x))
theorem GS (f : Nat → Int) (i : Nat) (x : Int) : cnV f (i + 1) x = cnV f i x + if f i = x then 1 else 0 := by
 unfold cnV
 rw [List.range_succ, List.countP_append]
 by_cases h : f i = x <;> simp [h]
theorem HS {m : List (Int × Value)} {a b c : Int → Nat} (h : Tal m a b c) (x : Int) (h0 : a x = 0 → b x = 0 ∧ c x = 0) : (lkM m x).getD (tl 0 0 0) = tl (a x) (b x) (c x) := by
 rw [h.2 x]
 split
 ·rename_i e; rw [e, (h0 e).1, (h0 e).2]; rfl
 rfl
theorem HR {m : List (Int × Value)} {a b c a' b' c' : Int → Nat} (h : Tal m a b c) (x : Int) (hx : a' x ≠ 0) (ho : ∀ y, y ≠ x → a' y = a y ∧ b' y = b y ∧ c' y = c y) : Tal (putM x (tl (a' x) (b' x) (c' x)) m) a' b' c' := by
 refine ⟨Gf h.1, fun y => ?_⟩
 rw [Do]
 by_cases hy : y = x
 ·subst hy; rw [if_pos rfl, if_neg hx]
 obtain ⟨h1, h2, h3⟩ := ho y hy
 rw [if_neg hy, h.2 y, h1, h2, h3]
theorem JO {f : Nat → Int} {es : List Pr} {i : Nat} {e : Pr} (he : es[i]? = some e) (x : Int) : cnE f es (i + 1) x = cnE f es i x + if f e.1.toNat = x then 1 else 0 := by
 unfold cnE
 rw [List.take_add_one, he, List.countP_append]
 by_cases h : f e.1.toNat = x <;> simp [h]
theorem EV {f : Nat → Int} {n j : Nat} (hj : j < n) : cnV f n (f j) ≠ 0 := by
 unfold cnV
 have : 0 < (List.range n).countP fun q => decide (f q = f j) := List.countP_pos_iff.2 ⟨j, Rn.2 hj, by simp⟩
 omega
theorem KK (f : Nat → Int) (i : Nat) (x : Int) : cnV f i x ≤ i := by
 unfold cnV; have := List.countP_le_length (p := fun j => decide (f j = x)) (l := List.range i); simpa using this
theorem NX (f : Nat → Int) (es : List Pr) (i : Nat) (x : Int) : cnE f es i x ≤ es.length := by
 unfold cnE; have := List.countP_le_length (p := fun e : Pr => decide (f e.1.toNat = x)) (l := es.take i); simp at this; omega
theorem NV {f : Nat → Int} {es : List Pr} {hs : List Int} {i : Nat} {h : Int} (hh : hs[i]? = some h) (x : Int) : cnF f es hs (i + 1) x = cnF f es hs i x + if f (headU es h) = x then 1 else 0 := by
 unfold cnF
 rw [List.take_add_one, hh, List.countP_append]
 by_cases h : f (headU es h) = x <;> simp [h]
theorem NW (f : Nat → Int) (es : List Pr) (hs : List Int) (i : Nat) (x : Int) : cnF f es hs i x ≤ hs.length := by
 unfold cnF; have := List.countP_le_length (p := fun h : Int => decide (f (headU es h) = x)) (l := hs.take i); simp at this; omega
/-! ### counting by labels -/
theorem C8 {α : Type} {p : α → Bool} : ∀ {l : List α} {a : α}, l.Nodup → a ∈ l → p a = true → (∀ b, b ∈ l → p b = true → b = a) → l.countP p = 1
 | [], a, _, h, _, _ => by cases h
 | x :: r, a, hn, ha, hp, hu => by
  rw [List.nodup_cons] at hn
  rw [List.countP_cons]
  by_cases hx : p x = true
  ·have e := hu x (by simp) hx
   subst e
   have : r.countP p = 0 := by
    rw [List.countP_eq_zero]
    intro b hb hpb
    have := hu b (by simp [hb]) hpb
    subst this; exact hn.1 hb
   simp [hx, this]
  have har : a ∈ r := by
   rcases List.mem_cons.1 ha with rfl | h
   ·exact absurd hp hx
   exact h
  rw [C8 hn.2 har hp fun b hb => hu b (by simp [hb])]
  simp [hx]
theorem GO {α : Type} {p : α → Bool} {l : List α} (h : ∀ a, a ∈ l → ¬ p a = true) : l.countP p = 0 := List.countP_eq_zero.2 h
theorem IQ {ks : List Int} {g : Int → Nat} (h : ∀ x, x ∈ ks → g x = 1) : (ks.map g).sum = ks.length := by
 induction ks with
 | nil => rfl
 | cons x r ih => simp only [List.map_cons, List.sum_cons, List.length_cons]; rw [h x (by simp), ih fun y hy => h y (by simp [hy])]; omega
theorem Ld {y : Int} : ∀ {ks : List Int}, ks.Nodup → y ∈ ks → (ks.map fun x => if y = x then 1 else 0).sum = 1
 | [], _, h => by cases h
 | x :: r, hn, h => by
  rw [List.nodup_cons] at hn
  simp only [List.map_cons, List.sum_cons]
  by_cases e : y = x
  ·subst e
   have : (r.map fun x => if y = x then 1 else 0).sum = 0 := by
    have : ∀ l : List Int, y ∉ l → (l.map fun x => if y = x then 1 else 0).sum = 0 := by
     intro l
     induction l with
     | nil => intro _; rfl
     | cons a l ih => intro hl; simp at hl; simp [hl.1, ih hl.2]
    exact this r hn.1
   rw [if_pos rfl, this]
  rw [if_neg e, Ld hn.2 (by rcases List.mem_cons.1 h with h | h; exact absurd h e; exact h)]
theorem Oq {ks : List Int} {g h : Int → Nat} : (ks.map fun x => g x + h x).sum = (ks.map g).sum + (ks.map h).sum := by
 induction ks with
 | nil => rfl
 | cons x r ih => simp only [List.map_cons, List.sum_cons, ih]; omega
theorem MU {ks : List Int} : (ks.map fun _ => 0).sum = 0 := by
 induction ks with
 | nil => rfl
 | cons x r ih => simpa using ih
/-- Things counted by their labels. -/
theorem Co {α : Type} {ks : List Int} (hn : ks.Nodup) {g : α → Int} : ∀ {l : List α}, (∀ a, a ∈ l → g a ∈ ks) → (ks.map fun x => l.countP fun a => decide (g a = x)).sum = l.length
 | [], _ => MU
 | a :: r, h => by
  have ih := Co hn (l := r) fun b hb => h b (by simp [hb])
  have e : (ks.map fun x => (a :: r).countP fun a => decide (g a = x)) = ks.map fun x => (r.countP fun a => decide (g a = x)) + if g a = x then 1 else 0 := by
   apply List.map_congr_left
   intro x _
   rw [List.countP_cons]
   by_cases h : g a = x <;> simp [h]
  rw [e, Oq, ih, Ld hn (h a (by simp)), List.length_cons]
/-! ### parts -/
/-- How many parts a graph has: its vertices that are the least of theirs. -/
noncomputable def ncomp (n : Nat) (es : List Pr) : Nat := (List.range n).countP fun v => decide (∀ y, y < v → ¬ Conn es y v)
def isoN (n : Nat) (es : List Pr) : Nat := (List.range n).countP fun v => decide (cnt es v = 0)
theorem HG {es : List Pr} {a b : Nat} (h : Conn es a b) : a = b ∨ ((∃ e, e ∈ es ∧ (e.1 = a ∨ e.2 = a)) ∧ ∃ e, e ∈ es ∧ (e.1 = b ∨ e.2 = b)) := by
 induction h with
 | refl a => exact .inl rfl
 | edge u v h => exact .inr ⟨⟨_, h, .inl rfl⟩, ⟨_, h, .inr rfl⟩⟩
 | symm _ ih =>
  rcases ih with rfl | ⟨h1, h2⟩
  ·exact .inl rfl
  exact .inr ⟨h2, h1⟩
 | trans _ _ ih1 ih2 =>
  rcases ih1 with rfl | ⟨h1, h2⟩
  ·exact ih2
  rcases ih2 with rfl | ⟨h3, h4⟩
  ·exact .inr ⟨h1, h2⟩
  exact .inr ⟨h1, h4⟩
theorem JM {N : Int} {es : List Pr} (hV : Vld N es) (v : Nat) : cnt es v ≠ 0 ↔ ∃ e, e ∈ es ∧ (e.1 = v ∨ e.2 = v) := by
 unfold cnt
 constructor
 ·intro h
  obtain ⟨x, hx⟩ : ∃ x, x ∈ outs es v := by
   cases hl : outs es v with
   | nil => rw [hl] at h; simp at h
   | cons x r => exact ⟨x, by simp⟩
  obtain ⟨h0, h1, h2⟩ := (Bh hV).1 hx
  obtain ⟨i, e, he, hc⟩ := B4 h0 h1
  refine ⟨e, Rc he, ?_⟩
  rcases hc with ⟨_, h3, _⟩ | ⟨_, h3, _⟩
  ·left; omega
  right; omega
 rintro ⟨e, he, hc⟩
 obtain ⟨i, hi⟩ := Rf.1 he
 have hm : ∃ h, h ∈ outs es v := by
  rcases hc with hc | hc
  ·have := Ds hi (u := v) (v := e.2) hc rfl
   exact ⟨_, (Bh hV).2 ⟨this.lo, this.hi, this.fr⟩⟩
  have := DV hi (u := v) (v := e.1) rfl hc
  exact ⟨_, (Bh hV).2 ⟨this.lo, this.hi, this.fr⟩⟩
 obtain ⟨h, hm⟩ := hm
 have := List.length_pos_of_mem hm
 omega
/-- Labels of the parts. -/
def Lab (n : Nat) (es : List Pr) (f : Nat → Int) : Prop := ∀ a b, a < n → b < n → (f a = f b ↔ Conn es a b)
theorem Pq {n k : Nat} {es : List Pr} {q : Nat → Nat} {f : Nat → Int} (hP : Parts es (rt q)) (hL : Labels (rt q) n k f) : Lab n es f :=
 fun a b ha hb => (hL.2.1 a b ha hb).trans (hP a b)
section
variable {n : Nat} {es : List Pr} {f : Nat → Int}
theorem D2 (hV : Vld n es) {e : Pr} (he : e ∈ es) : ∃ u v : Nat, e = ((u : Int), (v : Int)) ∧ u < v ∧ v < n := by
 obtain ⟨i, hi⟩ := Rf.1 he
 have ho := hV.ok i e hi
 have h1 := ho.lo
 have h2 := ho.lt
 have h3 := ho.hi
 exact ⟨e.1.toNat, e.2.toNat, Prod.ext (by simp; omega) (by simp; omega), by omega, by omega⟩
theorem JN {x : Int} (h : cnE f es es.length x = 0) {e : Pr} (he : e ∈ es) : f e.1.toNat ≠ x := by
 unfold cnE at h
 rw [List.take_length, List.countP_eq_zero] at h
 simpa using h e he
theorem OT {x : Int} (h : cnE f es es.length x ≠ 0) : ∃ e, e ∈ es ∧ f e.1.toNat = x := by
 unfold cnE at h
 rw [List.take_length] at h
 obtain ⟨e, he, hp⟩ := List.countP_pos_iff.1 (Nat.pos_of_ne_zero h)
 exact ⟨e, he, by simpa using hp⟩
theorem KL {x : Int} (h : cnV f n x ≠ 0) : ∃ j, j < n ∧ f j = x := by
 unfold cnV at h
 obtain ⟨j, hj, hp⟩ := List.countP_pos_iff.1 (Nat.pos_of_ne_zero h)
 exact ⟨j, Rn.1 hj, by simpa using hp⟩
/-- A vertex with a part's label, of a part without edges, has none; and is LR. -/
theorem LR (hV : Vld n es) (hf : Lab n es f) {x : Int} (h0 : cnE f es es.length x = 0) {j : Nat} (hj : j < n) (hx : f j = x) : cnt es j = 0 ∧ ∀ i, i < n → f i = x → i = j := by
 have hno : ∀ i, i < n → f i = x → ¬ ∃ e, e ∈ es ∧ (e.1 = i ∨ e.2 = i) := by
  rintro i hi hfi ⟨e, he, hc⟩
  obtain ⟨u, v, rfl, huv, hvn⟩ := D2 hV he
  have h1 := JN h0 he
  simp only [Rb] at h1
  rcases hc with hc | hc
  ·have : u = i := by simp at hc; omega
   subst this; exact h1 hfi
  have : v = i := by simp at hc; omega
  subst this
  exact h1 (((hf u v (by omega) hi).2 (.edge u v he)).trans hfi)
 refine ⟨?_, fun i hi hfi => ?_⟩
 ·apply Classical.byContradiction
  intro hc
  exact hno j hj hx ((JM hV j).1 hc)
 rcases HG ((hf i j hi hj).1 (hfi.trans hx.symm)) with e | ⟨⟨e, he, hc⟩, _⟩
 ·exact e
 exact absurd ⟨e, he, hc⟩ (hno i hi hfi)
/-- With edges, all its vertices have some. -/
theorem QY (hV : Vld n es) (hf : Lab n es f) {x : Int} (h0 : cnE f es es.length x ≠ 0) {j : Nat} (hj : j < n) (hx : f j = x) : cnt es j ≠ 0 := by
 obtain ⟨e, he, hfe⟩ := OT h0
 obtain ⟨u, v, rfl, huv, hvn⟩ := D2 hV he
 simp only [Rb] at hfe
 rw [JM hV]
 rcases HG ((hf j u hj (by omega)).1 (hx.trans hfe.symm)) with e | ⟨h1, _⟩
 ·subst e; exact ⟨_, he, .inl rfl⟩
 exact h1
theorem M9 (hV : Vld n es) (hf : Lab n es f) {x : Int} (hx : cnV f n x ≠ 0) :
  (cnE f es es.length x = 0 → cnV f n x = 1 ∧ ((List.range n).filter fun v => decide (cnt es v = 0)).countP (fun v => decide (f v = x)) = 1) ∧
  (cnE f es es.length x ≠ 0 → ((List.range n).filter fun v => decide (cnt es v = 0)).countP (fun v => decide (f v = x)) = 0) := by
 constructor
 ·intro h0
  obtain ⟨j, hj, hfj⟩ := KL hx
  obtain ⟨h1, h2⟩ := LR hV hf h0 hj hfj
  refine ⟨?_, ?_⟩
  ·unfold cnV
   exact C8 List.nodup_range (Rn.2 hj) (by simpa using hfj) fun b hb hp => h2 b (Rn.1 hb) (by simpa using hp)
  refine C8 (List.Nodup.sublist List.filter_sublist List.nodup_range) (List.mem_filter.2 ⟨Rn.2 hj, by simpa using h1⟩) (by simpa using hfj) fun b hb hp => ?_
  exact h2 b (Rn.1 (List.mem_filter.1 hb).1) (by simpa using hp)
 intro h0
 refine GO fun v hv hp => ?_
 obtain ⟨h1, h2⟩ := List.mem_filter.1 hv
 exact QY hV hf h0 (Rn.1 h1) (by simpa using hp) (by simpa using h2)
theorem Kn (hf : Lab n es f) {x : Int} (hx : cnV f n x ≠ 0) : ((List.range n).filter fun v => decide (∀ y, y < v → ¬ Conn es y v)).countP (fun v => decide (f v = x)) = 1 := by
 -- the least vertex of the part
 have hl : ∃ j, j < n ∧ f j = x ∧ ∀ i, i < n → f i = x → j ≤ i := by
  obtain ⟨j, hj, hfj⟩ := KL hx
  induction j using Nat.strongRecOn with
  | _ j ih =>
   by_cases hc : ∃ i, i < j ∧ f i = x
   ·obtain ⟨i, hi, hfi⟩ := hc
    exact ih i hi (by omega) hfi
   exact ⟨j, hj, hfj, fun i hi hfi => by
    apply Classical.byContradiction
    intro hlt
    exact hc ⟨i, by omega, hfi⟩⟩
 obtain ⟨j, hj, hfj, hmin⟩ := hl
 refine C8 (List.Nodup.sublist List.filter_sublist List.nodup_range) (List.mem_filter.2 ⟨Rn.2 hj, ?_⟩) (by simpa using hfj) fun b hb hp => ?_
 ·simp only [decide_eq_true_eq]
  intro y hy hc
  have := hmin y (by omega) (((hf y j (by omega) hj).2 hc).trans hfj)
  omega
 obtain ⟨h1, h2⟩ := List.mem_filter.1 hb
 have h1 := Rn.1 h1
 simp only [decide_eq_true_eq] at h2 hp
 have h3 := hmin b h1 hp
 rcases Nat.lt_or_eq_of_le h3 with h4 | h4
 ·exact absurd ((hf j b hj h1).1 (hfj.trans hp.symm)) (h2 j h4)
 exact h4.symm
end
/-! ### the sum -/
def gval (a b c : Nat) : Int := if b ≠ 0 then 2 - a + b - c else 0
def gsum (a b c : Int → Nat) (ks : List Int) : Int := (ks.map fun x => gval (a x) (b x) (c x)).sum
theorem KC {n : Nat} {es : List Pr} {f : Nat → Int} {hs : List Int} {ks : List Int} (hV : Vld n es) (hf : Lab n es f) (hn : ks.Nodup) (hk : ∀ x, x ∈ ks ↔ cnV f n x ≠ 0)
  (hh : ∀ h, h ∈ hs → headU es h < n ∧ cnE f es es.length (f (headU es h)) ≠ 0) :
  gsum (cnV f n) (cnE f es es.length) (cnF f es hs hs.length) ks = 2 * (ncomp n es : Int) - isoN n es - n + es.length - hs.length := by
 have hin : ∀ j, j < n → f j ∈ ks := fun j hj => (hk _).2 (EV hj)
 have s1 : (ks.map (cnV f n)).sum = n := by
  have := Co hn (g := f) (l := List.range n) fun a ha => hin a (Rn.1 ha)
  rw [List.length_range] at this
  exact this
 have s2 : (ks.map (cnE f es es.length)).sum = es.length := by
  have := Co hn (g := fun e : Pr => f e.1.toNat) (l := es) fun e he => by
   obtain ⟨u, v, rfl, huv, hvn⟩ := D2 hV he
   exact hin _ (by simp; omega)
  unfold cnE
  simpa using this
 have s3 : (ks.map (cnF f es hs hs.length)).sum = hs.length := by
  have := Co hn (g := fun h : Int => f (headU es h)) (l := hs) fun h hm => hin _ (hh h hm).1
  unfold cnF
  simpa using this
 have s4 : (ks.map fun x => ((List.range n).filter fun v => decide (cnt es v = 0)).countP fun v => decide (f v = x)).sum = isoN n es := by
  rw [Co hn (g := f) fun a ha => hin a (Rn.1 (List.mem_filter.1 ha).1)]
  unfold isoN
  rw [List.countP_eq_length_filter]
 have s5 : ks.length = ncomp n es := by
  have h1 := Co hn (g := f) (l := (List.range n).filter fun v => decide (∀ y, y < v → ¬ Conn es y v)) fun a ha => hin a (Rn.1 (List.mem_filter.1 ha).1)
  rw [IQ fun x hx => Kn hf ((hk x).1 hx)] at h1
  rw [h1]
  unfold ncomp
  rw [List.countP_eq_length_filter]
 have key : ∀ l : List Int, (∀ x, x ∈ l → cnV f n x ≠ 0) → gsum (cnV f n) (cnE f es es.length) (cnF f es hs hs.length) l =
   2 * (l.length : Int) - ((l.map fun x => ((List.range n).filter fun v => decide (cnt es v = 0)).countP fun v => decide (f v = x)).sum : Nat) - ((l.map (cnV f n)).sum : Nat) + ((l.map (cnE f es es.length)).sum : Nat) - ((l.map (cnF f es hs hs.length)).sum : Nat) := by
  intro l
  induction l with
  | nil => intro _; rfl
  | cons x r ih =>
   intro hx
   have h1 := ih fun y hy => hx y (by simp [hy])
   obtain ⟨p1, p2⟩ := M9 hV hf (hx x (by simp))
   unfold gsum at h1 ⊢
   simp only [List.map_cons, List.sum_cons, List.length_cons]
   rw [h1]
   unfold gval
   by_cases h0 : cnE f es es.length x = 0
   ·obtain ⟨q1, q2⟩ := p1 h0
    have q3 : cnF f es hs hs.length x = 0 := by
     unfold cnF
     rw [List.take_length]
     refine GO fun h hm hp => ?_
     have := (hh h hm).2
     rw [show f (headU es h) = x by simpa using hp] at this
     exact this h0
    rw [q1, q2, q3, h0, if_neg (by simp)]
    omega
   rw [p2 h0, if_pos h0]
   omega
 rw [key ks fun x hx => (hk x).1 hx, s1, s2, s3, s4, s5]
end Go.Fl

namespace Go.Fl
open Go Go.Proofs
open Classical
/-- The heads of the faces. -/
noncomputable def headsOf (n : Nat) (fn : Nat → Int) : List Int := ((List.range n).filter fun x => decide (Lead (phi fn) x)).map fun (x : Nat) => (x : Int)
def nxS (fn : Nat → Int) (h : Nat) : Nat := (fn h).toNat
section
variable {n : Nat} {es : List Pr} {rs : List (List Int)} {fn : Nat → Int}
theorem EG (hok : RotL n es rs) (hnx : NxOk rs rs.length fn) {v : Nat} {l : List Int} {i h : Nat} (hl : rs[v]? = some l) (hi : l[i]? = some (h : Int)) :
  l[(i + 1) % l.length]? = some (fn h) ∧ 0 ≤ fn h ∧ fn h < es.length * 2 ∧ fromV es (fn h) = v := by
 have h1 := hnx v l i h (Q9.1 hl).1 hl hi
 rw [Rb] at h1
 obtain ⟨h2, h3, h4⟩ := (hok.2.2 v l hl).1 _ (Rc h1)
 exact ⟨h1, h2, h3, h4⟩
theorem HU (hok : RotL n es rs) (hnx : NxOk rs rs.length fn) {v : Nat} {l : List Int} {i h : Nat} (hl : rs[v]? = some l) (hi : l[i]? = some (h : Int)) :
  ∀ k, l[(i + k) % l.length]? = some ((itr (nxS fn) k h : Nat) : Int)
 | 0 => by rw [Nat.add_zero, Nat.mod_eq_of_lt (Q9.1 hi).1]; exact hi
 | k + 1 => by
  have ih := HU hok hnx hl hi k
  obtain ⟨h1, h2, _⟩ := EG hok hnx hl ih
  rw [Nat.mod_add_mod] at h1
  rw [show i + (k + 1) = i + k + 1 by omega, h1]
  show some _ = some (((fn (itr (nxS fn) k h)).toNat : Nat) : Int)
  congr 1; omega
theorem HO (h : Nat) : twn (twn h) = h := by unfold twn; split <;> split <;> omega
theorem Nj (hok : RotL n es rs) (hnx : NxOk rs rs.length fn) : Perm (es.length * 2) (nxS fn) := by
 obtain ⟨hp, h0⟩ := H7 hok hnx
 have e : ∀ h, nxS fn h = phi fn (twn h) := fun h => by unfold phi nxS; rw [HO]
 have ht : ∀ h, h < es.length * 2 → twn h < es.length * 2 := fun h hh => by unfold twn; split <;> omega
 refine ⟨fun i hi => by rw [e]; exact hp.lt _ (ht i hi), fun i j hi hj he => ?_⟩
 rw [e, e] at he
 have := hp.inj _ _ (ht i hi) (ht j hj) he
 rw [← HO i, this, HO]
theorem M3 (hok : RotL n es rs) {h v : Nat} {l : List Int} (hh : h < es.length * 2) (hv : fromV es h = v) (hl : rs[v]? = some l) : ∃ i : Nat, l[i]? = some (h : Int) := by
 obtain ⟨v', l', i, hl', hi, hv'⟩ := El hok hh
 have : v' = v := by omega
 subst this
 rw [hl] at hl'; cases hl'
 exact ⟨i, hi⟩
theorem Hy (hok : RotL n es rs) (hnx : NxOk rs rs.length fn) {v : Nat} {l : List Int} (hl : rs[v]? = some l) {h k : Nat} (hh : h < es.length * 2) (hk : k < es.length * 2) (h1 : fromV es h = v) (h2 : fromV es k = v)
  (hL : Lead (nxS fn) h) : h ≤ k := by
 obtain ⟨i, hi⟩ := M3 hok hh h1 hl
 obtain ⟨j, hj⟩ := M3 hok hk h2 hl
 have hil := (Q9.1 hi).1
 have hjl := (Q9.1 hj).1
 have h3 := HU hok hnx hl hi (j + l.length - i)
 rw [show i + (j + l.length - i) = j + l.length by omega, Nat.add_mod_right, Nat.mod_eq_of_lt hjl, hj] at h3
 have h4 := hL (j + l.length - i)
 have h5 := Option.some.inj h3
 omega
theorem OJ (hok : RotL n es rs) (hnx : NxOk rs rs.length fn) {v : Nat} {l : List Int} (hl : rs[v]? = some l) (hne : l ≠ []) : ∃ h : Nat, h < es.length * 2 ∧ fromV es h = v ∧ Lead (nxS fn) h := by
 have hrow := (hok.2.2 v l hl).1
 have hm : ∃ h : Nat, (h : Int) ∈ l ∧ ∀ y, y ∈ l → (h : Int) ≤ y := by
  obtain ⟨x, hx⟩ : ∃ x, x ∈ l := List.exists_mem_of_ne_nil _ hne
  obtain ⟨k, hk⟩ := Rj (hrow x hx).1
  subst hk
  induction k using Nat.strongRecOn with
  | _ k ih =>
   by_cases hc : ∃ y, y ∈ l ∧ y < k
   ·obtain ⟨y, hy, hlt⟩ := hc
    obtain ⟨q, rfl⟩ := Rj (hrow y hy).1
    exact ih q (by omega) hy
   exact ⟨k, hx, fun y hy => by
    apply Classical.byContradiction
    intro h
    exact hc ⟨y, hy, by omega⟩⟩
 obtain ⟨h, hh, hmin⟩ := hm
 obtain ⟨h0, h1, h2⟩ := hrow _ hh
 refine ⟨h, by omega, h2, fun k => ?_⟩
 obtain ⟨i, hi⟩ := Rf.1 hh
 have := hmin _ (Rc (HU hok hnx hl hi k))
 omega
theorem NC (hV : Vld n es) {h : Nat} (hh : h < es.length * 2) : ∃ v : Nat, fromV es h = v ∧ v < n := by
 obtain ⟨i, e, he, hc⟩ := B4 (es := es) (h := (h : Int)) (by omega) (by omega)
 have ho := hV.ok i e he
 have h1 := ho.lo
 have h2 := ho.lt
 have h3 := ho.hi
 rcases hc with ⟨_, h4, _⟩ | ⟨_, h4, _⟩
 ·exact ⟨e.1.toNat, by omega, by omega⟩
 exact ⟨e.2.toNat, by omega, by omega⟩
/-- The labels of both ends of an edge. -/
theorem EN {f : Nat → Int} (hV : Vld n es) (hf : Lab n es f) {h : Nat} {i : Nat} {e : Pr} (he : es[i]? = some e) (hh : h / 2 = i) : f (fromV es h).toNat = f e.1.toNat := by
 have hl := (Q9.1 he).1
 obtain ⟨i', e', he', hc⟩ := B4 (es := es) (h := (h : Int)) (by omega) (by omega)
 have : i' = i := by rcases hc with ⟨h1, _⟩ | ⟨h1, _⟩ <;> omega
 subst this
 rw [he] at he'; cases he'
 obtain ⟨u, v, rfl, huv, hvn⟩ := D2 hV (Rc he)
 rcases hc with ⟨_, h4, _⟩ | ⟨_, h4, _⟩
 ·rw [h4]
 rw [h4]
 simp only [Rb]
 exact (hf v u hvn (by omega)).2 (.symm (.edge u v (Rc he)))
theorem ET {α : Type} {p : α → Bool} {q : Nat → Bool} : ∀ {l : List α} {k : Nat}, (∀ i e, l[i]? = some e → q (k + i) = p e) → l.countP p = (List.range' k l.length).countP q
 | [], k, _ => rfl
 | a :: r, k, h => by
  rw [List.length_cons, List.range'_succ, List.countP_cons, List.countP_cons, ET (l := r) (k := k + 1) (q := q) fun i e he => by
   rw [show k + 1 + i = k + (i + 1) by omega]; exact h (i + 1) e (by simpa using he)]
  have := h 0 a rfl
  rw [Nat.add_zero] at this
  rw [← this]
theorem Jr {h : Nat} {e : Pr} (he : es[h / 2]? = some e) : headU es (h : Int) = e.1.toNat := by
 unfold headU
 rw [show ((h : Int) / 2).toNat = h / 2 by omega, he]; rfl
theorem Mc {f : Nat → Int} (hok : RotL n es rs) (hnx : NxOk rs rs.length fn) (hf : Lab n es f) {x : Int} (h0 : cnE f es es.length x ≠ 0) :
  (cnV f n x + cnE f es es.length x + cnF f es (headsOf (es.length * 2) fn) (headsOf (es.length * 2) fn).length x) % 2 = 0 := by
 have hV := hok.1
 have hs := Nj hok hnx
 obtain ⟨c, hc⟩ : ∃ c : Nat → Bool, c = fun (i : Nat) => decide (f (fromV es (i : Int)).toNat = x) := ⟨_, rfl⟩
 have hm2 : es.length * 2 = 2 * es.length := by omega
 have h1 : ∀ i, i < 2 * es.length → c (nxS fn i) = c i := by
  intro i hi
  obtain ⟨v, l, j, hl, hj, hv⟩ := El hok (h := i) (by omega)
  obtain ⟨_, g1, g2, g3⟩ := EG hok hnx hl hj
  have : ((nxS fn i : Nat) : Int) = fn i := by unfold nxS; omega
  rw [hc]; simp only [this, g3, hv]
 have h2 : ∀ i, i < 2 * es.length → c (twn i) = c i := by
  intro i hi
  obtain ⟨e, he⟩ : ∃ e, es[i / 2]? = some e := ⟨_, Q8 (by omega)⟩
  rw [hc]
  simp only
  rw [EN hV hf he rfl, EN hV hf (h := twn i) he (by unfold twn; split <;> omega)]
 rw [hm2] at hs
 have hpar := JB hs h1 h2
 have e1 : (List.range (2 * es.length)).countP (fun i => c i && decide (Lead (fun h => nxS fn (twn h)) i)) = cnF f es (headsOf (es.length * 2) fn) (headsOf (es.length * 2) fn).length x := by
  unfold cnF headsOf
  rw [List.take_length, List.countP_map, List.countP_filter, hm2]
  apply List.countP_congr
  intro i hi
  have hi := Rn.1 hi
  obtain ⟨e, he⟩ : ∃ e, es[i / 2]? = some e := ⟨_, Q8 (by omega)⟩
  have e2 : (fun h => nxS fn (twn h)) = phi fn := rfl
  simp only [Function.comp_def]
  rw [e2, hc]
  simp only
  rw [EN hV hf he rfl, Jr he]
 have e2 : (List.range es.length).countP (fun e => c (2 * e)) = cnE f es es.length x := by
  unfold cnE
  rw [List.take_length, List.range_eq_range']
  refine (ET (k := 0) (q := fun e => c (2 * e)) ?_).symm
  intro i e he
  rw [hc]
  simp only [Nat.zero_add]
  rw [EN hV hf (h := 2 * i) he (by omega)]
 have e3 : (List.range (2 * es.length)).countP (fun i => c i && decide (Lead (nxS fn) i)) = cnV f n x := by
  have hk : (((List.range n).filter fun v => decide (f v = x)).map fun (v : Nat) => (v : Int)).Nodup := by
   unfold List.Nodup
   rw [List.pairwise_map]
   exact (List.Nodup.sublist List.filter_sublist List.nodup_range).imp fun h => by omega
  have hsum := Co hk (g := fun h : Nat => fromV es h) (l := (List.range (2 * es.length)).filter fun i => c i && decide (Lead (nxS fn) i)) fun h hh => by
   obtain ⟨g1, g2⟩ := List.mem_filter.1 hh
   have g1 := Rn.1 g1
   obtain ⟨v, hv, hvn⟩ := NC hV (h := h) (by omega)
   rw [hc] at g2
   simp only [Bool.and_eq_true, decide_eq_true_eq, hv, Rb] at g2
   exact List.mem_map.2 ⟨v, List.mem_filter.2 ⟨Rn.2 hvn, by simpa using g2.1⟩, hv.symm⟩
  rw [IQ] at hsum
  ·rw [List.countP_eq_length_filter, ← hsum, List.length_map, ← List.countP_eq_length_filter]; rfl
  intro y hy
  obtain ⟨v, hv, rfl⟩ := List.mem_map.1 hy
  obtain ⟨hv1, hv2⟩ := List.mem_filter.1 hv
  have hv1 := Rn.1 hv1
  have hv2 : f v = x := by simpa using hv2
  have hlen := hok.2.1
  obtain ⟨l, hl⟩ : ∃ l, rs[v]? = some l := ⟨_, Q8 (by omega)⟩
  have hne : l ≠ [] := by
   intro e
   have h3 := (hok.2.2 v l hl).2.2
   rw [e] at h3
   exact QY hV hf h0 hv1 hv2 (by simpa using h3.symm)
  obtain ⟨h, g1, g2, g3⟩ := OJ hok hnx hl hne
  refine C8 (List.Nodup.sublist List.filter_sublist List.nodup_range) (a := h) (List.mem_filter.2 ⟨Rn.2 (by omega), ?_⟩) (by simpa using g2) fun b hb hp => ?_
  ·rw [hc]; simp [g2, hv2, g3]
  obtain ⟨b1, b2⟩ := List.mem_filter.1 hb
  have b1 := Rn.1 b1
  simp only [Bool.and_eq_true, decide_eq_true_eq] at b2 hp
  have q1 := Hy hok hnx hl g1 (by omega) g2 hp g3
  have q2 := Hy hok hnx hl (h := b) (k := h) (by omega) g1 hp g2 b2.2
  omega
 rw [e1, e2, e3] at hpar
 omega
end
end Go.Fl

namespace Go.Fl
open Go Go.Proofs
open Classical
structure GeI where
 i : Nat
 m : List (Int × Value)
def ints0 (i k : Nat) : List Int := (List.range k).map fun (x : Nat) => (x : Int)
structure GeK where
 left : List (Int × Value)
 last : Option (Int × Value)
 S : Int
/-- How many faces. -/
noncomputable def facesN (es : List Pr) (fn : Nat → Int) : Nat := (headsOf (es.length * 2) fn).length
/-- Twice the sum of the genera of the parts. -/
noncomputable def genus2 (n : Nat) (es : List Pr) (fn : Nat → Int) : Int := 2 * (ncomp n es : Int) - isoN n es - n + es.length - facesN es fn
theorem GE {a b c : Int → Nat} : ∀ {ks : List Int} {j : Nat} {x : Int}, ks[j]? = some x → gsum a b c ks = gval (a x) (b x) (c x) + gsum a b c (ks.eraseIdx j)
 | [], j, x, h => by simp at h
 | y :: r, 0, x, h => by simp at h; subst h; rfl
 | y :: r, j + 1, x, h => by
  have := GE (a := a) (b := b) (c := c) (ks := r) (j := j) (x := x) (by simpa using h)
  unfold gsum at this ⊢
  rw [List.eraseIdx_cons_succ]
  simp only [List.map_cons, List.sum_cons]
  omega
theorem J1 {n : Nat} {es : List Pr} {rs : List (List Int)} {va v : Value} {w : World} (hg : PrV w va es) (hl : LsV w v rs) (hok : RotL n es rs) :
  Calls Tryz.prog 121 #[.agg #[.int .i64 n, va], v] w (Ret w [] fun r M => M = [] ∧ ∃ fn S, NxOk rs rs.length fn ∧ r = .tuple #[.int .i64 S, .int .i64 0] ∧ 2 * S = genus2 n es fn) := by
 obtain ⟨A, cap, ev, hr, hlc, hcm, hle⟩ := id hg
 subst ev
 have hV := hok.1
 have hfew := hV.few
 have hN1 : n ≤ 1048576 := by have := hV.hi; omega
 refine Ao (args := [_, _]) (L := []) Tryz.func121 rfl Tryz.ntmps121 rfl (Own.start _ _) ?_
 refine Zs ?_
 refine Zw (AX (cs := #[.int .i64 n, .slice A es.length cap]) rfl rfl rfl) fun g2 => ?_
 iterate 2 refine Za ?_
 refine Zx <| Zs ?_
 refine Zu (Aq (vs := [_, _]) rfl rfl Bs Bd rfl (Ai rfl)) ?_
 refine Zm ?_
 refine Seq.rel rfl rfl (Am QJ rfl rfl rfl (fun w' hw => MK (hg.keep0 hw) (hl.keep0 hw) (fun f h1 h2 => H7 h1 h2))) ?_
 intro v28 L28 hC28
 obtain ⟨_, vf, fs, fn, rfl, hnx, hD, rfl⟩ := hC28.resolve_right (fun h => h.1 hok)
 refine Seq.own (M := slc vf 44 1 (rowsV fs) :: blk g2 24 #[.int .i64 n, .slice A es.length cap] :: rowsC 3 fs) (fun w hw => hw.perm (List.Perm.cons _ (Rr (l₁ := [_]) (l₂ := rowsC 3 fs)))) ?_
 refine Zm ?_
 iterate 2 refine Ze ?_
 iterate 2 refine Za ?_
 refine Zx <| DC.seq <| Zs ?_
 refine Zm ?_
 refine Zo (BQ rfl rfl rfl) ?_
 refine Zx ?_
 refine Zd (fun c2 => ?_) fun c2 => ?_
 ·refine Zs ?_
  refine Zm ?_
  iterate 2 refine Za ?_
  refine Zx <| DC.ret <| Aa ?_
  refine Fin.weak (E' := [(4, _), (5, _)]) ⟨rfl, rfl, trivial⟩ .nil ?_
  refine AI (.inl rfl) rfl rfl rfl ?_
  simp at c2
 refine DC.skip <| Fin.then <| Zs ?_
 refine Zu (Aq (vs := [_, _]) rfl rfl Bs Bd rfl (Ai rfl)) ?_
 refine Seq.rel rfl rfl (Am QI rfl rfl rfl (fun w' hw => Oc (hg.keep0 hw) hV)) ?_
 rintro _ _ ⟨gl, k, f, q, rfl, hq, hPa, hLa, rfl⟩
 simp only [zs]
 refine Zm ?_
 iterate 3 refine Ze ?_
 iterate 3 refine Za ?_
 refine Zx <| Zs ?_
 refine Seq.rel rfl rfl (CH (enc := encI) rfl) ?_
 rintro _ _ ⟨gm, rfl, rfl⟩
 simp only [zs]
 refine Za ?_
 refine Zx <| DC.seq <| Zs ?_
 refine Zm ?_
 refine Zn Rt ?_
 refine Zm ?_
 refine Zx <| DC.block ?_
 refine DC.loop (ι := GeI) (fun j => j.i ≤ n ∧ Tal j.m (cnV f j.i) (fun _ => 0) (fun _ => 0))
  (fun j => [(2, .pointer (some ⟨g2, 0, none⟩)), (6, vf), (8, .slice (some ⟨gl, 0, none⟩) n n), (11, .map (some gm)), (41, .slice (some ⟨gl, 0, none⟩) n n), (42, .int .i64 n), (43, .int .i64 j.i)])
  (fun j => mpc encI gm j.m :: blk gl 3 (ints (tab n f)).toArray :: slc vf 44 1 (rowsV fs) :: blk g2 24 #[.int .i64 n, .slice A es.length cap] :: rowsC 3 fs) (fun j => n - j.i) ⟨0, []⟩
  ⟨Nat.zero_le _, by simp, fun x => by simp [cnV]⟩ ⟨rfl, rfl, rfl, rfl, rfl, rfl, rfl, trivial⟩ (.cons 0 rfl (.cons 0 rfl (Pick.all _))) ?_
 rintro ⟨i, m⟩ ⟨hi, hm⟩
 dsimp only at hi hm ⊢
 refine Zs ?_
 refine Zc ?_
 refine Zx <| DC.seq ?_
 refine Zd (fun c7 => ?_) fun c7 => ?_
 ·have hlt : i < n := by simpa using c7
  have hb1 := KK f i (f i)
  refine DC.skip <| Fin.then <| DC.seq <| DC.block <| Zs ?_
  refine Zi Rt AN ?_
  refine Zu (Ak rfl rfl AJ (A8 (Bm hlt))) ?_
  refine Za ?_
  refine Zx <| Zs ?_
  iterate 2 refine Zm ?_
  refine Zu (Cz (v := tl (cnV f i (f i)) 0 0) (k := f i) 0 rfl DU rfl rfl rfl Tryz.underlying228 F2 (HS hm (f i) (fun _ => ⟨rfl, rfl⟩))) ?_
  refine Zw (Ay rfl F2 rfl) fun g14 => ?_
  refine Zy (Ah (cs' := #[.int .i64 (cnV f i (f i)), .int .i64 0, .int .i64 0]) rfl rfl rfl Ga rfl (Ra rfl) rfl) ?_
  refine Zx <| Zs ?_
  refine Zf Ij ?_
  refine Zl AJ ?_
  refine Zp ?_
  refine Zf Ij ?_
  refine Zy (AB (cs' := #[_, _, _]) rfl rfl rfl AN rfl (Ra rfl) rfl) ?_
  refine Zx <| DC.region ?_
  iterate 2 refine Zm ?_
  refine Zu (Aq (vs := [_, _, _]) rfl rfl N5 Ga rfl (Ai (vs := [.int .i64 ((cnV f i (f i) : Nat) + 1), .int .i64 0, .int .i64 0]) rfl)) ?_
  refine Zy (BF (k := f i) 1 rfl DU rfl rfl rfl rfl Tryz.underlying228 rfl) ?_
  simp only [List.set_cons_zero, List.set_cons_succ]
  refine Seq.nil <| Fin.inBlock <| Fin.then <| DC.region ?_
  refine Zp ?_
  refine Zm ?_
  refine Seq.nil ?_
  refine Fin.own (fun w hw => hw.sub (Rg ..)) ?_
  refine Fin.again ⟨i + 1, putM (f i) (tl (cnV f (i + 1) (f i)) 0 0) m⟩ (by dsimp only; omega) ⟨by dsimp only; omega, ?_⟩ ⟨rfl, rfl, rfl, rfl, rfl, rfl, rfl, trivial⟩ (.cons' 0 rfl (by dsimp only; rw [GS, if_pos rfl]; rfl) (Pick.all _))
  refine HR (a' := cnV f (i + 1)) (b' := fun _ => 0) (c' := fun _ => 0) hm (f i) (by rw [GS, if_pos rfl]; omega) fun y hy => ⟨?_, rfl, rfl⟩
  rw [GS, if_neg (Ne.symm hy)]; rfl
 refine DC.exit <| Ad <| Ad <| Ag <| Fin.then <| DC.seq <| Zs ?_
 refine Zf Br ?_
 refine Zl B9 ?_
 refine Zn Ru ?_
 refine Zm ?_
 refine Zx <| DC.block ?_
 have hin : i = n := by simp at c7; omega
 subst hin
 refine DC.loop (ι := GeI) (fun j => j.i ≤ es.length ∧ Tal j.m (cnV f i) (cnE f es j.i) (fun _ => 0))
  (fun j => [(2, .pointer (some ⟨g2, 0, none⟩)), (6, vf), (8, .slice (some ⟨gl, 0, none⟩) i i), (11, .map (some gm)), (59, .slice A es.length cap), (60, .int .i64 es.length), (61, .int .i64 j.i)])
  (fun j => mpc encI gm j.m :: blk gl 3 (ints (tab i f)).toArray :: slc vf 44 1 (rowsV fs) :: blk g2 24 #[.int .i64 i, .slice A es.length cap] :: rowsC 3 fs) (fun j => es.length - j.i) ⟨0, m⟩
  ⟨Nat.zero_le _, hm.1, fun x => by rw [hm.2 x]; simp [cnE]⟩ ⟨rfl, rfl, rfl, rfl, rfl, rfl, rfl, trivial⟩ (Pick.all _) ?_
 rintro ⟨i2, m2⟩ ⟨hi2, hm2⟩
 dsimp only at hi2 hm2 ⊢
 refine Zs ?_
 refine Zc ?_
 refine Zx <| DC.seq ?_
 refine Zd (fun c14 => ?_) fun c14 => ?_
 ·have hlt : i2 < es.length := by simpa using c14
  obtain ⟨e, he⟩ : ∃ e, es[i2]? = some e := ⟨_, Q8 hlt⟩
  obtain ⟨ad, rfl, hU, hVe⟩ := hr.pair he
  have ho := hV.ok i2 e he
  obtain ⟨u, hu⟩ := Rj ho.lo
  obtain ⟨u2, hu2⟩ := Rj (show 0 ≤ e.2 by have := ho.lo; have := ho.lt; omega)
  obtain rfl : e = ((u : Int), (u2 : Int)) := Prod.ext hu hu2
  clear hu hu2
  have hun : u < i := by have h1 := ho.lt; have h2 := ho.hi; simp at h1 h2; omega
  replace hU : w.cell? (ad.add (i2 * 2)) = some (.int .i64 (u : Int)) := hU
  replace hVe : w.cell? (ad.add (i2 * 2 + 1)) = some (.int .i64 (u2 : Int)) := hVe
  have hb2 := NX f es i2 (f u)
  have hb3 := KK f i (f u)
  refine DC.skip <| Fin.then <| DC.seq <| DC.block <| Zs ?_
  refine Zo (AT rfl rfl rfl Ru AP (by omega) (by omega) (by first | exact Az _ _ | exact AS _ _ _ | rfl)) ?_
  refine Zu (Aq (vs := [_, _]) rfl rfl BW AP rfl (CC hU hVe (by simp))) ?_
  refine Zw (Ay rfl B6 rfl) fun g16 => ?_
  refine Zy (Ah (cs' := #[_, _]) rfl rfl rfl AP rfl (Ra rfl) rfl) ?_
  refine Zx <| Zs ?_
  iterate 2 refine Zm ?_
  refine Zf Bf ?_
  refine Zl AJ ?_
  refine Zi Rt AN ?_
  refine Zu (Ak rfl rfl AJ (A8 (Bm hun))) ?_
  refine Zu (Cz (v := tl (cnV f i (f u)) (cnE f es i2 (f u)) 0) (k := f u) 1 rfl DU rfl rfl rfl Tryz.underlying228 F2 (HS hm2 (f u) (fun e => absurd e (EV hun)))) ?_
  refine Zw (Ay rfl F2 rfl) fun g17 => ?_
  refine Zy (Ah (cs' := #[.int .i64 (cnV f i (f u)), .int .i64 (cnE f es i2 (f u)), .int .i64 0]) rfl rfl rfl Ga rfl (Ra rfl) rfl) ?_
  refine Zx <| Zs ?_
  refine Zf FW ?_
  refine Zl AJ ?_
  refine Zp ?_
  refine Zf FW ?_
  refine Zy (AB (cs' := #[_, _, _]) rfl rfl rfl AN rfl (Ra rfl) rfl) ?_
  refine Zx ?_
  refine AC (cl := [.q, .q, .q, .v, .q, .v, .v, .g]) (A := [0, 0, 0, 4, 14, 30, 0, 127]) (order := [0, 1, 2, 3, 4, 5, 6, 7]) [] mixed (by kernel_rfl) (fun w hw => hw.pick .nil) ?_
  iterate 2 refine Ym ?_
  refine Yf Bf ?_
  refine Yl AJ ?_
  refine Yo rfl (Aw rfl rfl rfl Rt AN (by omega) (by omega) (by first | exact Az _ _ | exact AS _ _ _ | rfl)) ?_
  refine Ar rfl rfl rfl rfl (Ak rfl rfl AJ (A8 (Bm hun))) ?_
  refine Ar rfl rfl rfl rfl (Aq (vs := [_, _, _]) rfl rfl N5 Ga rfl (Ai (vs := [.int .i64 (cnV f i (f u)), .int .i64 ((cnE f es i2 (f u) : Nat) + 1), .int .i64 0]) rfl)) ?_
  refine AD rfl rfl rfl rfl (BF (k := f u) 2 rfl DU rfl rfl rfl rfl Tryz.underlying228 rfl) (fun w hw => hw.pick (.nil)) ?_
  refine Flow.end rfl ?_
  simp only [zq, zr]
  refine Fin.inBlock <| Fin.then <| DC.region ?_
  refine Zp ?_
  refine Zm ?_
  refine Seq.nil ?_
  have e1 : cnE f es (i2 + 1) (f u) = cnE f es i2 (f u) + 1 := by rw [JO he]; simp
  refine Fin.own (fun w hw => (hw.sub (Rg ..)).sub (Rg ..)) ?_
  refine Fin.again ⟨i2 + 1, putM (f u) (tl (cnV f i (f u)) (cnE f es (i2 + 1) (f u)) 0) m2⟩ (by dsimp only; omega) ⟨by dsimp only; omega, ?_⟩ ⟨rfl, rfl, rfl, rfl, rfl, rfl, rfl, trivial⟩ (.cons' 0 rfl (by dsimp only; rw [e1]; rfl) (Pick.all _))
  refine HR (a' := cnV f i) (b' := cnE f es (i2 + 1)) (c' := fun _ => 0) hm2 (f u) (EV hun) fun y hy => ⟨rfl, ?_, rfl⟩
  have : ¬ f u = y := fun e => hy e.symm
  rw [JO he]; simp [this]
 refine DC.exit <| Ad <| Ad <| Ag <| Fin.then <| DC.seq <| DC.seq ?_
 have hi2e : i2 = es.length := by simp at c14; omega
 subst hi2e
 refine F1 (i := 2) rfl ?_
 rintro Af cf' rfl hAf
 rw [rowsV_length]
 obtain ⟨hs, hhs⟩ : ∃ hs : List Int, hs = fs.map fun p => p.2.headD 0 := ⟨_, rfl⟩
 have hhead : ∀ (j : Nat) (p : Value × List Int), fs[j]? = some p → ∃ x : Nat, x < es.length * 2 ∧ p.2[0]? = some (x : Int) ∧ hs[j]? = some (x : Int) := by
  intro j p hp
  have h1 : (fs.map fun p => p.2.head?)[j]? = some p.2.head? := by rw [List.getElem?_map, hp]; rfl
  rw [hD.heads, List.getElem?_map, Option.map_eq_some_iff] at h1
  obtain ⟨x, hx, hxe⟩ := h1
  have hxm := Rc hx
  have hxl : x < es.length * 2 := Rn.1 (List.mem_filter.1 hxm).1
  refine ⟨x, hxl, by rw [← List.head?_eq_getElem?, ← hxe], ?_⟩
  rw [hhs, List.getElem?_map, hp]
  simp [List.headD_eq_head?_getD, ← hxe]
 have hfsl : fs.length ≤ 8388608 := by
  have h1 := congrArg List.length hD.heads
  simp only [List.length_map] at h1
  have h2 := List.length_filter_le (fun x => decide (Lead (phi fn) x)) (List.range (es.length * 2))
  simp at h2; omega
 refine DC.region ?_
 refine Zm ?_
 refine Zn Rw ?_
 refine Zm ?_
 refine Zx <| DC.block ?_
 refine DC.loop (ι := GeI) (fun j => j.i ≤ fs.length ∧ Tal j.m (cnV f i) (cnE f es es.length) (cnF f es hs j.i))
  (fun j => [(2, .pointer (some ⟨g2, 0, none⟩)), (8, .slice (some ⟨gl, 0, none⟩) i i), (11, .map (some gm)), (84, .slice Af fs.length cf'), (85, .int .i64 fs.length), (86, .int .i64 j.i)])
  (fun j => mpc encI gm j.m :: blk gl 3 (ints (tab i f)).toArray :: slc (.slice Af fs.length cf') 44 1 (rowsV fs) :: blk g2 24 #[.int .i64 i, .slice A es.length cap] :: rowsC 3 fs) (fun j => fs.length - j.i) ⟨0, m2⟩
  ⟨Nat.zero_le _, hm2.1, fun x => by rw [hm2.2 x]; simp [cnF]⟩ ⟨rfl, rfl, rfl, rfl, rfl, rfl, trivial⟩ (Pick.all _) ?_
 rintro ⟨i3, m3⟩ ⟨hi3, hm3⟩
 dsimp only at hi3 hm3 ⊢
 refine Zs ?_
 refine Zc ?_
 refine Zx <| DC.seq ?_
 refine Zd (fun c21 => ?_) fun c21 => ?_
 ·have hlt3 : i3 < fs.length := by simpa using c21
  obtain ⟨p, hp⟩ : ∃ p, fs[i3]? = some p := ⟨_, Q8 hlt3⟩
  obtain ⟨adf, rfl⟩ := hAf (fun e => by have := congrArg List.length e; simp at this; rw [this] at hlt3; simp at hlt3)
  refine DC.skip <| Fin.then <| DC.seq <| DC.block <| Zs ?_
  refine Zi Rw Cn ?_
  refine Zu (Ak rfl rfl BS (Jv (i := 2) (q := p.1) rfl (by simp [rowsV, hp]))) ?_
  refine Za ?_
  refine Zx <| DC.seq ?_
  obtain ⟨x, hx, hx0, hxh⟩ := hhead i3 p hp
  have hpl := hD.short p (Rc hp)
  refine DC.slcs (v := p.1) (i := i3 + 4) (xs := p.2) (t := 3) (by simp [rowsC, hp]) (by omega) ?_
  rintro A3 c3 hp1 hA3
  obtain ⟨ad3, rfl⟩ := hA3 (fun e => by rw [e] at hx0; simp at hx0)
  have hp2 : 0 < p.2.length := (Q9.1 hx0).1
  rw [hp1]
  obtain ⟨e, he⟩ : ∃ e, es[x / 2]? = some e := ⟨_, Q8 (by omega)⟩
  obtain ⟨ad, rfl, hU, hVe⟩ := hr.pair he
  have ho := hV.ok (x / 2) e he
  obtain ⟨u, hu⟩ := Rj ho.lo
  rw [hu] at hU
  have hun : u < i := by have h1 := ho.lt; have h2 := ho.hi; omega
  have hxd : ((x : Int) / 2).toNat = x / 2 := by omega
  refine AC (cl := [.q, .q, .v, .q, .q, .v, .q, .q, .q, .v, .q, .v, .q]) (A := [0, 0, 2, 0, 8, 24, 56, 126, 254, 510, 1023, 2047, 4095]) (order := [0, 1, 2, 3, 4, 5, 6, 7, 8, 9, 10, 11, 12]) [] mixed (by kernel_rfl) (fun w hw => hw.pick .nil) ?_
  refine Ym ?_
  refine Yf Br ?_
  refine Yl B9 ?_
  refine Ym ?_
  refine Yo rfl (Aw (ad' := ad3.add 0) rfl rfl rfl Rt AN (by omega) (by omega) rfl) ?_
  refine Ar rfl rfl rfl rfl (Ak rfl rfl AJ (BJ (t := 3) (i := i3 + 4) (l := p.2.length) (c := c3) (by rw [← hp1]; simp [rowsC, hp]) hx0 (by omega))) ?_
  refine Yo rfl (Nb rfl rfl rfl (by omega) (by omega)) ?_
  refine Yo rfl (AT (ad' := ad.add (x / 2 * 2)) rfl rfl rfl Ru AP (by omega) (by omega) (by rw [hxd])) ?_
  refine Yo rfl (H2 (ad' := ad.add (x / 2 * 2)) rfl rfl Bf (by simp [Addr.add])) ?_
  refine Ar rfl rfl rfl rfl (Ak rfl rfl AJ (AY hU)) ?_
  refine Yo rfl (Aw rfl rfl rfl Rt AN (by omega) (by omega) (by first | exact Az _ _ | exact AS _ _ _ | rfl)) ?_
  refine Ar rfl rfl rfl rfl (Ak rfl rfl AJ (A8 (Bm hun))) ?_
  refine Yo rfl (AF rfl rfl) ?_
  refine Flow.end rfl ?_
  simp only [zq, zr]
  refine Fin.then <| DC.seq ?_
  have hb4 := NW f es hs i3 (f u)
  have hhl : hs.length = fs.length := by rw [hhs]; simp
  have hFs : ∀ y, cnF f es hs (i3 + 1) y = cnF f es hs i3 y + if f u = y then 1 else 0 := fun y => by
   have h1 : headU es x = u := by unfold headU; rw [hxd, he]; simp [hu]
   rw [NV hxh, h1]
  refine DC.region ?_
  iterate 2 refine Zm ?_
  refine Zu (Cz (v := tl (cnV f i (f u)) (cnE f es es.length (f u)) (cnF f es hs i3 (f u))) (k := f u) 0 rfl DU rfl rfl rfl Tryz.underlying228 F2 (HS hm3 (f u) (fun e => absurd e (EV hun)))) ?_
  refine Zw (Ay rfl F2 rfl) fun g21 => ?_
  refine Zy (Ah (cs' := #[.int .i64 (cnV f i (f u)), .int .i64 (cnE f es es.length (f u)), .int .i64 (cnF f es hs i3 (f u))]) rfl rfl rfl Ga rfl (Ra rfl) rfl) ?_
  refine Zx <| Zs ?_
  refine Zf Ii ?_
  refine Zl AJ ?_
  refine Zp ?_
  refine Zf Ii ?_
  refine Zy (AB (cs' := #[_, _, _]) rfl rfl rfl AN rfl (Ra rfl) rfl) ?_
  refine Zx <| DC.region ?_
  iterate 2 refine Zm ?_
  refine Zu (Aq (vs := [_, _, _]) rfl rfl N5 Ga rfl (Ai (vs := [.int .i64 (cnV f i (f u)), .int .i64 (cnE f es es.length (f u)), .int .i64 ((cnF f es hs i3 (f u) : Nat) + 1)]) rfl)) ?_
  refine Zy (BF (k := f u) 1 rfl DU rfl rfl rfl rfl Tryz.underlying228 rfl) ?_
  simp only [List.set_cons_zero, List.set_cons_succ]
  refine Seq.nil <| Fin.inBlock <| Fin.then <| DC.region ?_
  refine Zp ?_
  refine Zm ?_
  refine Seq.nil ?_
  have e1 : cnF f es hs (i3 + 1) (f u) = cnF f es hs i3 (f u) + 1 := by rw [hFs]; simp
  refine Fin.own (fun w hw => hw.sub (Rg ..)) ?_
  refine Fin.again ⟨i3 + 1, putM (f u) (tl (cnV f i (f u)) (cnE f es es.length (f u)) (cnF f es hs (i3 + 1) (f u))) m3⟩ (by dsimp only; omega) ⟨by dsimp only; omega, ?_⟩ ⟨rfl, rfl, rfl, rfl, rfl, rfl, trivial⟩ (.cons' 0 rfl (by dsimp only; rw [e1]; rfl) (Pick.all _))
  refine HR (a' := cnV f i) (b' := cnE f es es.length) (c' := cnF f es hs (i3 + 1)) hm3 (f u) (EV hun) fun y hy => ⟨rfl, rfl, ?_⟩
  have : ¬ f u = y := fun e => hy e.symm
  rw [hFs]; simp [this]
 refine DC.exit <| Ad <| Ad <| Ag <| Fin.then <| DC.seq ?_
 have hi3e : i3 = fs.length := by simp at c21; omega
 subst hi3e
 have hhl : hs.length = fs.length := by rw [hhs]; simp
 have hheads : hs = headsOf (es.length * 2) fn := by
  rw [hhs]
  unfold headsOf
  have h1 := hD.heads
  have h2 : fs.map (fun p => p.2.headD 0) = (fs.map fun p => p.2.head?).map fun o => o.getD 0 := by rw [List.map_map]; apply List.map_congr_left; intro p _; simp [List.headD_eq_head?_getD]
  rw [h2, h1, List.map_map]
  rfl
 rw [← hhl] at hm3
 have hL := Pq hPa hLa
 have hhin : ∀ h, h ∈ hs → headU es h < i ∧ cnE f es es.length (f (headU es h)) ≠ 0 := by
  intro h hh
  rw [hheads] at hh
  obtain ⟨y, hy, rfl⟩ := List.mem_map.1 hh
  have hy2 := Rn.1 (List.mem_filter.1 hy).1
  obtain ⟨e, he⟩ : ∃ e, es[y / 2]? = some e := ⟨_, Q8 (by omega)⟩
  have hem := Rc he
  obtain ⟨u, u2, rfl, h1, h2⟩ := D2 hV hem
  rw [Jr he]
  refine ⟨by simp; omega, fun h0 => JN h0 hem rfl⟩
 have hkeys : ∀ x, x ∈ m3.map (·.1) ↔ cnV f i x ≠ 0 := by
  intro x
  have h1 := hm3.2 x
  constructor
  ·intro hx h0
   rw [if_pos h0] at h1
   exact Gu h1 hx
  intro h0
  rw [if_neg h0] at h1
  exact List.mem_map.2 ⟨_, FP h1, rfl⟩
 have htot := KC hV hL hm3.1 hkeys hhin
 have hent : ∀ p, p ∈ m3 → p.2 = tl (cnV f i p.1) (cnE f es es.length p.1) (cnF f es hs hs.length p.1) := by
  intro p hp
  have h1 := Ku hm3.1 (x := p.1) (v := p.2) hp
  rw [hm3.2] at h1
  rw [if_neg ((hkeys _).1 (List.mem_map.2 ⟨p, hp, rfl⟩))] at h1
  exact (Option.some.inj h1).symm
 have hmlen : m3.length ≤ 1048576 := by
  have h1 := Fe (b := ints0 i k) hm3.1 (fun x hx => ?_)
  ·simp [ints0] at h1; have := hLa.2.2.2; omega
  obtain ⟨j, hj, hfj⟩ := KL ((hkeys x).1 hx)
  obtain ⟨h2, h3⟩ := hLa.1 j hj
  rw [hfj] at h2 h3
  exact List.mem_map.2 ⟨x.toNat, Rn.2 (by omega), by omega⟩
 refine DC.region ?_
 refine Za ?_
 refine Zx <| DC.seq <| Zs ?_
 refine Zm ?_
 refine Seq.gen rfl rfl (LF (enc := encI) (m := m3) 0 rfl rfl rfl Tryz.underlying228) ?_
 rintro _ _ ⟨gi, rfl, rfl⟩
 rw [List.set_cons_zero]
 refine Zx <| DC.block ?_
 refine DC.loop (ι := GeK) (fun j => (∀ p, p ∈ j.left → p ∈ m3) ∧ 2 * j.S + gsum (cnV f i) (cnE f es es.length) (cnF f es hs hs.length) (j.left.map (·.1)) = genus2 i es fn ∧ j.left.length ≤ m3.length ∧
   -(16777216 * ((m3.length : Int) - j.left.length)) ≤ j.S ∧ j.S ≤ 16777216 * ((m3.length : Int) - j.left.length))
  (fun j => [(22, .int .i64 j.S), (114, .pointer (some ⟨gi, 0, none⟩))]) (fun j => [mit encI gm gi m3 j.left j.last]) (fun j => j.left.length) ⟨m3, none, 0⟩
  ⟨fun p hp => hp, by dsimp only; rw [htot]; unfold genus2 facesN; rw [← hheads]; omega, Nat.le_refl _, by dsimp only; omega, by dsimp only; omega⟩ ⟨rfl, rfl, trivial⟩ (.cons 0 rfl .nil) ?_
 rintro ⟨left, last, S⟩ ⟨hleft, hS, hll, hS1, hS2⟩
 dsimp only at hleft hS hll hS1 hS2 ⊢
 refine Zs ?_
 refine Seq.gen rfl rfl (NA (enc := encI) 0 rfl rfl rfl) ?_
 intro v115 L115 hC115
 obtain ⟨b, rest, rfl, hcase⟩ : ∃ b rest, v115 = .tuple ⟨.bool b :: rest⟩ ∧ ((b = false ∧ left = []) ∨ (b = true ∧ ∃ j p, left[j]? = some p ∧ L115 = [mit encI gm gi m3 (left.eraseIdx j) (some p)])) := by
  rcases hC115 with ⟨rfl, h1, _⟩ | ⟨j, p, h1, rfl, h2⟩
  ·exact ⟨false, [], rfl, .inl ⟨rfl, h1⟩⟩
  exact ⟨true, _, rfl, .inr ⟨rfl, j, p, h1, by rw [h2]; rfl⟩⟩
 refine Ze ?_
 refine Zx <| DC.seq ?_
 refine Zd (fun c30 => ?_) fun c30 => ?_
 ·obtain ⟨j, p, hp, rfl⟩ : ∃ j p, left[j]? = some p ∧ L115 = [mit encI gm gi m3 (left.eraseIdx j) (some p)] := by
   rcases hcase with ⟨h1, _⟩ | ⟨_, h1⟩
   ·rw [h1] at c30; cases c30
   exact h1
  clear hC115 hcase
  obtain ⟨x, xv⟩ := p
  have hpm := hleft _ (Rc hp)
  obtain rfl : xv = tl (cnV f i x) (cnE f es es.length x) (cnF f es hs hs.length x) := hent _ hpm
  have hb1 := KK f i x
  have hb2 := NX f es es.length x
  have hb3 := NW f es hs hs.length x
  have hx0 := (hkeys x).1 (List.mem_map.2 ⟨_, hpm, rfl⟩)
  have her := GE (a := cnV f i) (b := cnE f es es.length) (c := cnF f es hs hs.length) (ks := left.map (·.1)) (j := j) (x := x) (by rw [List.getElem?_map, hp]; rfl)
  rw [← ChangeMaps.map_eraseIdx] at her
  have hjl := (Q9.1 hp).1
  have hel : (left.eraseIdx j).length = left.length - 1 := List.length_eraseIdx_of_lt hjl
  refine DC.skip <| Fin.then <| DC.block <| Zs ?_
  refine Zu (K9 (p := (x, tl (cnV f i x) (cnE f es es.length x) (cnF f es hs hs.length x))) 0 rfl rfl rfl) ?_
  refine Ze ?_
  refine Zw (Ay rfl F2 rfl) fun g24 => ?_
  refine Zy (Ah (cs' := #[.int .i64 (cnV f i x), .int .i64 (cnE f es es.length x), .int .i64 (cnF f es hs hs.length x)]) rfl rfl rfl Ga rfl (Ra rfl) rfl) ?_
  refine Zx <| Zs ?_
  refine Zf FW ?_
  refine Zl AJ ?_
  refine Zo (Bx rfl rfl rfl) ?_
  refine Zx ?_
  refine Zd (fun c32 => ?_) fun c32 => ?_
  ·have hne : cnE f es es.length x ≠ 0 := by simp at c32; omega
   have heven := Mc hok hnx hL hne
   rw [← hheads] at heven
   obtain ⟨q, hq⟩ : ∃ q : Int, 2 - ((cnV f i x : Nat) : Int) + (cnE f es es.length x : Nat) - (cnF f es hs hs.length x : Nat) = 2 * q := ⟨(2 - ((cnV f i x : Nat) : Int) + (cnE f es es.length x : Nat) - (cnF f es hs hs.length x : Nat)) / 2, by omega⟩
   refine DC.region ?_
   refine Zm ?_
   refine Zf Ij ?_
   refine Zl AJ ?_
   refine Zo (Ce rfl rfl rfl (by omega)) ?_
   refine Zf FW ?_
   refine Zl AJ ?_
   refine Zp ?_
   refine Zf Ii ?_
   refine Zl AJ ?_
   refine Zo (Ce rfl rfl rfl (by omega)) ?_
   refine Zo (Pm (q := q) rfl rfl rfl hq (by omega)) ?_
   refine Zp ?_
   refine Za ?_
   refine Seq.nil <| Fin.inBlock ?_
   refine Fin.again ⟨left.eraseIdx j, some (x, tl (cnV f i x) (cnE f es es.length x) (cnF f es hs hs.length x)), S + q⟩ (by dsimp only; omega) ⟨fun p hp => hleft p (List.mem_of_mem_eraseIdx hp), ?_, by dsimp only; omega, by dsimp only; rw [hel]; omega, by dsimp only; rw [hel]; omega⟩ ⟨rfl, rfl, trivial⟩ (.cons 1 rfl .nil)
   dsimp only
   have : gval (cnV f i x) (cnE f es es.length x) (cnF f es hs hs.length x) = 2 * q := by unfold gval; rw [if_pos hne]; exact hq
   omega
  refine DC.skip <| Fin.inBlock ?_
  have hne : cnE f es es.length x = 0 := by simp at c32; omega
  refine Fin.again ⟨left.eraseIdx j, some (x, tl (cnV f i x) (cnE f es es.length x) (cnF f es hs hs.length x)), S⟩ (by dsimp only; omega) ⟨fun p hp => hleft p (List.mem_of_mem_eraseIdx hp), ?_, by dsimp only; omega, by dsimp only; rw [hel]; omega, by dsimp only; rw [hel]; omega⟩ ⟨rfl, rfl, trivial⟩ (.cons 1 rfl .nil)
  dsimp only
  have : gval (cnV f i x) (cnE f es es.length x) (cnF f es hs hs.length x) = 0 := by unfold gval; rw [if_neg (by simp [hne])]
  omega
 refine DC.exit <| Ad <| Ad <| Ag <| Fin.then <| Zs ?_
 refine Zm ?_
 iterate 2 refine Za ?_
 refine Zx <| DC.ret ?_
 refine Fin.weak (E' := [(4, _), (5, _)]) ⟨rfl, rfl, trivial⟩ .nil ?_
 refine AI (.inl rfl) rfl rfl rfl ?_
 refine ⟨rfl, fn, S, hnx, rfl, ?_⟩
 have h0 : left = [] := by
  rcases hcase with ⟨_, h1⟩ | ⟨h1, _⟩
  ·exact h1
  rw [h1] at c30; simp at c30
 rw [h0] at hS
 simpa [gsum] using hS
end Go.Fl

namespace Go.Fl
open Go Go.Proofs
theorem K6 {n : Nat} {es : List Pr} {rs : List (List Int)} {va v : Value} {w : World} (hg : PrV w va es) (hl : LsV w v rs) (hok : RotL n es rs) :
  Calls Tryz.prog 95 #[.agg #[.int .i64 n, va], v] w (Ret w [] fun r M => M = [] ∧ ∃ fn b, NxOk rs rs.length fn ∧ r = .bool b ∧ (b = true ↔ genus2 n es fn = 0)) := by
 refine Ao (args := [_, _]) (L := []) Tryz.func95 rfl Tryz.ntmps95 rfl (Own.start _ _) ?_
 refine Zs ?_
 refine Zw (AX rfl rfl rfl) fun g2 => ?_
 refine Za ?_
 refine Zx <| Zs ?_
 refine Zu (Aq (vs := [_, _]) rfl rfl Bs Bd rfl (Ai rfl)) ?_
 refine Zm ?_
 refine Seq.rel0 rfl rfl (Am QR rfl rfl rfl (fun w' hw => J1 (hg.keep0 hw) (hl.keep0 hw) hok)) ?_
 rintro _ ⟨fn, S, hnx, rfl, hS⟩
 refine Zm ?_
 iterate 2 refine Ze ?_
 iterate 2 refine Za ?_
 refine Zx <| Zs ?_
 refine Zm ?_
 refine Zo (AW rfl rfl rfl) ?_
 refine Zm ?_
 refine Seq.split 15 rfl (fun k2_2 => ?_) (fun k2_2 => ?_)
 ·refine Zm ?_
  refine Zo (AW rfl rfl rfl) ?_
  refine Zt ?_
  refine Za ?_
  refine Zx <| DC.ret ?_
  refine Fin.weak (E' := [(4, _)]) ⟨rfl, trivial⟩ .nil ?_
  refine Zh ?_
  exact ⟨rfl, fn, _, hnx, rfl, by first | (simp; omega) | (simp at k2_2)⟩
 iterate 2 refine Zk ?_
 refine Zg ?_
 refine Za ?_
 refine Zx <| DC.ret ?_
 refine Fin.weak (E' := [(4, _)]) ⟨rfl, trivial⟩ .nil ?_
 refine Zh ?_
 exact ⟨rfl, fn, _, hnx, rfl, by first | (simp; omega) | (simp at k2_2)⟩
/-- Being flat, said of the lists round the vertices. -/
def FlatR (n : Nat) (es : List Pr) (ls : List (List Int)) (b : Prop) : Prop := ∃ rs fn, RotR es ls rs ∧ NxOk rs rs.length fn ∧ (b ↔ genus2 n es fn = 0)
theorem JR {pl : Bool} {n : Nat} {es : List Pr} {ls : List (List Int)} {va v u : Value} {w : World} (hg : PrV w va es) (hv : LsV w v ls) (hok : RotOk n es ls) :
  Calls Tryz.prog 57 #[.agg #[.int .i64 n, va], .agg #[.bool pl, v, u]] w (Ret w [] fun r M => M = [] ∧ ∃ b, r = .bool b ∧ FlatR n es ls (b = true)) := by
 have hN := hok.1.hi
 refine Ao (args := [_, _]) (L := []) Tryz.func57 rfl Tryz.ntmps57 rfl (Own.start _ _) ?_
 refine Zs ?_
 refine Zw (AX rfl rfl rfl) fun g2 => ?_
 refine Zw (AX rfl rfl rfl) fun g3 => ?_
 refine Za ?_
 refine Zx <| Zs ?_
 refine Zu (Aq (vs := [_, _]) rfl rfl Bs Bd rfl (Ai rfl)) ?_
 refine Zf C4 ?_
 refine Zl Fr ?_
 refine Seq.rel rfl rfl (Am Qj rfl rfl rfl (fun w' hw => FD (hg.keep0 hw) (hv.keep0 hw))) ?_
 intro v12 L12 hC12
 obtain ⟨_, g, rs, rfl, rfl, hR⟩ := hC12.resolve_right (fun h => h.1 hok)
 have hl := HV hok hR
 have hlen : rs.length = n := by have := hl.2.1; simp at this; omega
 rw [Rb]
 refine Seq.own (M := blk g 44 (rowsV rs).toArray :: blk g3 27 #[.bool pl, v, u] :: blk g2 24 #[.int .i64 n, va] :: rowsC 3 rs) (fun w hw => hw.perm (List.Perm.cons _ (Rr (l₁ := [_, _]) (l₂ := rowsC 3 rs)))) ?_
 have hshort : ∀ p, p ∈ rs → p.2.length ≤ 17592186044416 := fun p hp => by
  obtain ⟨j, hj⟩ := Rf.1 hp
  have h1 := (hl.2.2 j p.2 (by rw [List.getElem?_map, hj]; rfl)).2.2
  have h2 := Fb es 0 (j : Int)
  have h3 := hok.1.few
  unfold cnt outs at h1
  omega
 refine Zm ?_
 iterate 3 refine Ze ?_
 iterate 3 refine Za ?_
 refine Zx <| Zs ?_
 refine Zu (Aq (vs := [_, _]) rfl rfl Bs Bd rfl (Ai rfl)) ?_
 refine Zm ?_
 refine Seq.rel0 rfl rfl (Am en95 rfl rfl rfl (fun w' hw => K6 (hg.keep0 hw) (OG (hw.sub (L' := blk g 44 (rowsV rs).toArray :: rowsC 3 rs) (((List.Sublist.refl _).cons _).cons _ |>.cons_cons _)) hlen (by omega) hshort) hl)) ?_
 rintro _ ⟨fn, b, hnx, rfl, hb⟩
 refine Za ?_
 refine Zx <| DC.ret ?_
 refine Fin.weak (E' := [(4, _)]) ⟨rfl, trivial⟩ .nil ?_
 refine Zh ?_
 exact ⟨rfl, b, rfl, _, fn, hR, hnx, hb⟩
theorem HM {pl : Bool} {N : Int} {es cs : List Pr} {va v u : Value} {w : World} (hg : PrV w va es) (hu : PrV w u cs) :
  Calls Tryz.prog 58 #[.agg #[.int .i64 N, va], .agg #[.bool pl, v, u]] w (Ret w [] fun r M => M = [] ∧ ∃ b, r = .bool b ∧ (b = true ↔ ∀ c, c ∈ cs → c ∈ es)) := by
 obtain ⟨B, capb, eu, _, _, _, hleb⟩ := id hu
 refine Ao (args := [_, _]) (L := []) Tryz.func58 rfl Tryz.ntmps58 rfl (Own.start _ _) ?_
 refine Zs ?_
 refine Zw (AX rfl rfl rfl) fun g2 => ?_
 refine Zw (AX rfl rfl rfl) fun g3 => ?_
 refine Za ?_
 refine Zx <| DC.seq <| Zs ?_
 refine Zu (Aq (vs := [_, _]) rfl rfl Bs Bd rfl (Ai rfl)) ?_
 refine Zu (Aq (vs := [_, _, _]) rfl rfl B7 BA rfl (Ai rfl)) ?_
 refine Seq.rel rfl rfl (Am Qi rfl rfl rfl (fun w' hw => DR (hg.keep0 hw) (hu.keep0 hw))) ?_
 rintro _ _ ⟨g, ns, rfl, ⟨hns, hn⟩, rfl⟩
 simp only [zs]
 refine Zn Rt ?_
 refine Zm ?_
 refine Zx <| DC.block ?_
 refine DC.loop (ι := Nat) (fun i => i ≤ cs.length ∧ ∀ (j : Nat) c, j < i → cs[j]? = some c → c ∈ es)
  (fun i => [(9, .slice (some ⟨g, 0, none⟩) cs.length cs.length), (10, .int .i64 cs.length), (11, .int .i64 i)])
  (fun i => [blk g 3 (ints ns).toArray]) (fun i => cs.length - i) 0 ⟨Nat.zero_le _, fun _ _ h => absurd h (Rs _)⟩ ⟨rfl, rfl, rfl, trivial⟩ (.cons 0 rfl .nil) ?_
 rintro i ⟨hi, hin⟩
 refine Zs ?_
 refine Zc ?_
 refine Zx <| DC.seq ?_
 refine Zd (fun c2 => ?_) fun c2 => ?_
 ·have hlt : i < cs.length := by simpa using c2
  obtain ⟨c, hc⟩ : ∃ c, cs[i]? = some c := ⟨_, Q8 hlt⟩
  obtain ⟨x, hx⟩ : ∃ x, ns[i]? = some x := ⟨_, Q8 (by omega)⟩
  have hcase := hn i c x hc hx
  refine DC.skip <| Fin.then <| DC.seq <| DC.block <| Zs ?_
  refine Zi Rt AN ?_
  refine Zu (Ak rfl rfl AJ (A8 (Bz hx))) ?_
  refine Za ?_
  refine Zx <| Zs ?_
  refine Zm ?_
  refine Zc ?_
  refine Zx ?_
  refine Zd (fun c4 => ?_) fun c4 => ?_
  ·refine Zs ?_
   refine Za ?_
   refine Zx <| DC.ret <| Ae <| Aa <| Aa <| Ae <| Aa ?_
   refine Fin.weak (E' := [(4, _)]) ⟨rfl, trivial⟩ .nil ?_
   refine Zh ?_
   refine ⟨rfl, false, rfl, ?_⟩
   simp only [Bool.false_eq_true, false_iff]
   intro h
   rcases hcase with ⟨_, h1⟩ | ⟨k, h1, _⟩
   ·exact h1 (h c (Rc hc))
   simp at c4; omega
  refine DC.skip <| Fin.inBlock <| Fin.then <| DC.region ?_
  refine Zp ?_
  refine Zm ?_
  refine Seq.nil ?_
  refine Fin.again (i + 1) (by omega) ⟨by omega, ?_⟩ ⟨rfl, rfl, rfl, trivial⟩ (.cons 0 rfl .nil)
  intro j c' hj hc'
  rcases Re.1 hj with hj | rfl
  ·exact hin j c' hj hc'
  rw [hc] at hc'; cases hc'
  rcases hcase with ⟨h1, _⟩ | ⟨k, _, h2⟩
  ·subst h1; simp at c4
  exact Rc h2
 refine DC.exit <| Ad <| Ad <| Ag <| Fin.then <| Zs ?_
 refine Za ?_
 refine Zx <| DC.ret ?_
 refine Fin.weak (E' := [(4, _)]) ⟨rfl, trivial⟩ .nil ?_
 refine Zh ?_
 have hie : i = cs.length := by simp at c2; omega
 subst hie
 refine ⟨rfl, true, rfl, ?_⟩
 simp only [true_iff]
 intro c hc
 obtain ⟨j, hj⟩ := Rf.1 hc
 exact hin j c (Q9.1 hj).1 hj
open Classical
/-- Which pairs of places there must be a path between. -/
def wantP (k : Int) (i j : Nat) : Bool := decide (i < j) && (decide (k ≠ 2) || (decide (i < 3) && decide (3 ≤ j)))
def cw (k : Int) (n : Nat) : Nat → Nat
 | 0 => 0
 | i + 1 => cw k n i + (List.range n).countP (wantP k i)
theorem NT (k : Int) (n : Nat) : ∀ i, cw k n i ≤ i * n
 | 0 => by simp [cw]
 | i + 1 => by
  have := NT k n i
  have h2 := List.countP_le_length (p := wantP k i) (l := List.range n)
  simp at h2
  rw [Nat.succ_mul]; unfold cw; omega
theorem ES (k : Int) (i j : Nat) : (List.range (j + 1)).countP (wantP k i) = (List.range j).countP (wantP k i) + if wantP k i j then 1 else 0 := by
 rw [List.range_succ, List.countP_append]
 cases h : wantP k i j <;> simp [h]
def JJ (m : List (Pr × Value)) (S : List Int) (i j : Nat) : Prop := ∀ x y, S[i]? = some x → S[j]? = some y → (lkM m (srt x y)).isSome = true
structure PaI where
 i : Nat
 v : Value
 pv : List Value
theorem Fx {k : Int} {gm : Nat} {m : List (Pr × Value)} {cs : RL} {vb : Value} {S : List Int} {w : World} (hO : Own w (idsOf (mpc encP gm m :: slc vb 3 1 (ints S) :: rowsC 3 cs)) w (mpc encP gm m :: slc vb 3 1 (ints S) :: rowsC 3 cs)) (hm : MapR m cs)
  (hs : ∀ p, p ∈ cs → p.2.length ≤ 1000000000) (hS : S.length ≤ 6) :
  Calls Tryz.prog 128 #[.int .i64 k, vb, .map (some gm)] w (Ret w (idsOf (mpc encP gm m :: slc vb 3 1 (ints S) :: rowsC 3 cs)) fun r M => M = [] ∧ ∃ k0 A0 l0 c0 A1 l1 c1 b, r = .tuple #[.agg #[.int .i64 k0, .slice A0 l0 c0, .slice A1 l1 c1], .bool b] ∧
   (b = true ↔ (∀ i j, i < S.length → j < S.length → wantP k i j = true → JJ m S i j) ∧ cw k S.length S.length = m.length)) := by
 refine Ao (args := [_, _, _]) (L := mpc encP gm m :: slc vb 3 1 (ints S) :: rowsC 3 cs) Tryz.func128 rfl Tryz.ntmps128 rfl hO ?_
 refine DC.slcs (i := 1) (xs := S) rfl (by omega) ?_
 rintro A c rfl hA
 refine Zs ?_
 refine Zw (Ay rfl LU rfl) fun g6 => ?_
 refine Za ?_
 refine Zx <| Zs ?_
 iterate 2 refine Zm ?_
 refine Zo (As (cs := #[_, _, _]) rfl rfl JW rfl rfl) ?_
 refine Zw (Ay rfl LU rfl) fun g8 => ?_
 refine Zy (Ah (cs' := #[_, _, _]) rfl rfl rfl Cm rfl (Ra rfl) rfl) ?_
 refine Zx <| DC.seq <| Zs ?_
 refine Zm ?_
 refine Zn Rt ?_
 refine Zm ?_
 refine Zx <| DC.block ?_
 refine DC.own (fun w hw => AU (t := 44) (m := 1) hw) ?_
 refine DC.loop (ι := PaI) (fun j => j.i ≤ S.length ∧ j.pv.length = cw k S.length j.i ∧ ∀ a b, a < j.i → b < S.length → wantP k a b = true → JJ m S a b)
  (fun j => [(0, .int .i64 k), (1, .slice A S.length c), (2, .map (some gm)), (6, .pointer (some ⟨g6, 0, none⟩)), (8, .pointer (some ⟨g8, 0, none⟩)), (18, .slice A S.length c), (19, .int .i64 S.length), (20, .int .i64 j.i)])
  (fun j => mpc encP gm m :: slc (.slice A S.length c) 3 1 (ints S) :: slc j.v 44 1 j.pv :: blk g8 77 #[.int .i64 k, .slice A S.length c, j.v] :: blk g6 77 #[.int .i64 0, .slice none 0 0, .slice none 0 0] :: rowsC 3 cs) (fun j => S.length - j.i)
  ⟨0, .slice none 0 0, []⟩ ⟨Nat.zero_le _, rfl, fun _ _ h => absurd h (Rs _)⟩ ⟨rfl, rfl, rfl, rfl, rfl, rfl, rfl, rfl, trivial⟩ (.cons 3 rfl (.cons 3 rfl (.cons 0 rfl (.cons 0 rfl (.cons 0 rfl (Pick.all _)))))) ?_
 rintro ⟨i, v, pv⟩ ⟨hi, hpv, hJ⟩
 dsimp only at hi hpv hJ ⊢
 refine Zs ?_
 refine Zc ?_
 refine Zx <| DC.seq ?_
 refine Zd (fun c3 => ?_) fun c3 => ?_
 ·have hlt : i < S.length := by simpa using c3
  obtain ⟨ad, rfl⟩ := hA (fun e => by rw [e] at hlt; simp at hlt)
  obtain ⟨x, hx⟩ : ∃ x, S[i]? = some x := ⟨_, Q8 hlt⟩
  refine DC.skip <| Fin.then <| DC.seq <| DC.block <| Zs ?_
  refine Zm ?_
  refine Zo (Aw (ad' := ad.add i) rfl rfl rfl Rt AN (by omega) (by omega) rfl) ?_
  refine Zu (Ak rfl rfl AJ (BJ (i := 1) rfl hx (by omega))) ?_
  iterate 2 refine Za ?_
  refine Zx <| Zs ?_
  refine Zm ?_
  refine Zn Rt ?_
  refine Zm ?_
  refine Zx <| DC.block ?_
  refine DC.loop (ι := PaI) (fun j => j.i ≤ S.length ∧ j.pv.length = cw k S.length i + (List.range j.i).countP (wantP k i) ∧ ∀ b, b < j.i → wantP k i b = true → JJ m S i b)
   (fun j => [(0, .int .i64 k), (1, .slice (some ad) S.length c), (2, .map (some gm)), (6, .pointer (some ⟨g6, 0, none⟩)), (8, .pointer (some ⟨g8, 0, none⟩)), (9, .int .i64 i), (10, .int .i64 x), (18, .slice (some ad) S.length c), (19, .int .i64 S.length), (20, .int .i64 i), (25, .slice (some ad) S.length c), (26, .int .i64 S.length), (27, .int .i64 j.i)])
   (fun j => mpc encP gm m :: slc (.slice (some ad) S.length c) 3 1 (ints S) :: slc j.v 44 1 j.pv :: blk g8 77 #[.int .i64 k, .slice (some ad) S.length c, j.v] :: blk g6 77 #[.int .i64 0, .slice none 0 0, .slice none 0 0] :: rowsC 3 cs) (fun j => S.length - j.i)
   ⟨0, v, pv⟩ ⟨Nat.zero_le _, by simp [hpv], fun _ h => absurd h (Rs _)⟩ ⟨rfl, rfl, rfl, rfl, rfl, rfl, rfl, rfl, rfl, rfl, rfl, rfl, rfl, trivial⟩ (Pick.all _) ?_
  rintro ⟨j, v2, pv2⟩ ⟨hj, hpv2, hJ2⟩
  dsimp only at hj hpv2 hJ2 ⊢
  refine Zs ?_
  refine Zc ?_
  refine Zx <| DC.seq ?_
  refine Zd (fun c6 => ?_) fun c6 => ?_
  ·have hjl : j < S.length := by simpa using c6
   obtain ⟨y, hy⟩ : ∃ y, S[j]? = some y := ⟨_, Q8 hjl⟩
   have hb1 := NT k S.length i
   have hb2 : i * S.length ≤ 6 * 6 := Nat.mul_le_mul (by omega) (by omega)
   have hb3 := List.countP_le_length (p := wantP k i) (l := List.range j)
   rw [List.length_range] at hb3
   refine DC.skip <| Fin.then <| DC.seq <| DC.block <| Zs ?_
   refine Zm ?_
   refine Zo (Aw (ad' := ad.add j) rfl rfl rfl Rt AN (by omega) (by omega) rfl) ?_
   refine Zu (Ak rfl rfl AJ (BJ (i := 1) rfl hy (by omega))) ?_
   iterate 2 refine Za ?_
   refine Zx <| DC.seq <| Zs ?_
   iterate 2 refine Zm ?_
   refine Zo (Lm rfl rfl rfl) ?_
   refine Zm ?_
   refine Seq.split 35 rfl (fun k8_3 => ?_) (fun k8_3 => ?_)
   ·refine Zk ?_
    iterate 9 refine Zk ?_
    refine Zt ?_
    refine Zx ?_
    refine AG rfl ?_
    refine DC.exit <| Ad <| Ag <| Fin.then <| DC.region ?_
    refine Zp ?_
    refine Zm ?_
    refine Seq.nil ?_
    have hno : wantP k i j = false := by simp at k8_3; simp [wantP]; omega
    refine Fin.again ⟨j + 1, v2, pv2⟩ (by dsimp only; omega) ⟨by dsimp only; omega, by dsimp only; rw [ES, hno]; simpa using hpv2, fun b hb hw => ?_⟩ ⟨rfl, rfl, rfl, rfl, rfl, rfl, rfl, rfl, rfl, rfl, rfl, rfl, rfl, trivial⟩ (Pick.all _)
    rcases Re.1 hb with hb | rfl
    ·exact hJ2 b hb hw
    rw [hno] at hw; cases hw
   refine Zm ?_
   refine Zo (AW rfl rfl rfl) ?_
   refine Zm ?_
   refine Seq.split 38 rfl (fun k8_6 => ?_) (fun k8_6 => ?_)
   ·refine Zm ?_
    refine Zo (Ck rfl rfl rfl) ?_
    refine Zm ?_
    refine Seq.split 41 rfl (fun k8_9 => ?_) (fun k8_9 => ?_)
    ·refine Zk ?_
     refine Zk ?_
     iterate 2 refine Zt ?_
     refine Zg ?_
     refine Zx ?_
     refine AG rfl ?_
     refine DC.exit <| Ad <| Ag <| Fin.then <| DC.region ?_
     refine Zp ?_
     refine Zm ?_
     refine Seq.nil ?_
     have hno : wantP k i j = false := by simp at k8_3 k8_6 k8_9; simp [wantP, k8_6]; omega
     refine Fin.again ⟨j + 1, v2, pv2⟩ (by dsimp only; omega) ⟨by dsimp only; omega, by dsimp only; rw [ES, hno]; simpa using hpv2, fun b hb hw => ?_⟩ ⟨rfl, rfl, rfl, rfl, rfl, rfl, rfl, rfl, rfl, rfl, rfl, rfl, rfl, trivial⟩ (Pick.all _)
     rcases Re.1 hb with hb | rfl
     ·exact hJ2 b hb hw
     rw [hno] at hw; cases hw
    refine Zm ?_
    refine Zc ?_
    refine Zg ?_
    refine Zt ?_
    refine Zg ?_
    refine Zx ?_
    refine Zd (fun c8 => ?_) fun c8 => ?_
    ·refine DC.exit <| Ad <| Ag <| Fin.then <| DC.region ?_
     refine Zp ?_
     refine Zm ?_
     refine Seq.nil ?_
     have hno : wantP k i j = false := by simp at k8_3 k8_6 k8_9 c8; simp [wantP, k8_6]; omega
     refine Fin.again ⟨j + 1, v2, pv2⟩ (by dsimp only; omega) ⟨by dsimp only; omega, by dsimp only; rw [ES, hno]; simpa using hpv2, fun b hb hw => ?_⟩ ⟨rfl, rfl, rfl, rfl, rfl, rfl, rfl, rfl, rfl, rfl, rfl, rfl, rfl, trivial⟩ (Pick.all _)
     rcases Re.1 hb with hb | rfl
     ·exact hJ2 b hb hw
     rw [hno] at hw; cases hw
    refine DC.skip <| Fin.then <| DC.seq ?_
    have hyes : wantP k i j = true := by
     first
     | (simp at k8_3 k8_6 k8_9 c8; simp [wantP]; omega)
     | (simp at k8_3 k8_6; simp [wantP, k8_6]; omega)
    refine DC.region ?_
    iterate 3 refine Zm ?_
    refine Seq.gen rfl rfl (AQ NP rfl rfl rfl (Lc := mpc encP gm m :: ([slc (.slice (some ad) S.length c) 3 1 (ints S), slc v2 44 1 pv2, blk g8 77 #[.int .i64 k, .slice (some ad) S.length c, v2], blk g6 77 #[.int .i64 0, .slice none 0 0, .slice none 0 0]] ++ rowsC 3 cs)) (F := []) (by rw [List.append_nil]; exact .refl _) (fun k hk => hk) (fun w' hw => Dq hw.self hm hs)) ?_
    rintro _ _ ⟨_, ⟨rfl, A', l', c', rfl⟩, rfl⟩
    rw [List.append_nil]
    simp only [zs]
    refine Zm ?_
    iterate 2 refine Ze ?_
    iterate 2 refine Za ?_
    refine Zx <| DC.seq <| Zs ?_
    refine Zm ?_
    refine Zo (Bb rfl rfl) ?_
    refine Zx ?_
    refine Zd (fun c10 => ?_) fun c10 => ?_
    ·refine Zs ?_
     refine Zo (As (cs := #[_, _, _]) rfl rfl JW rfl rfl) ?_
     refine Zy (Ah (cs' := #[_, _, _]) rfl rfl rfl Cm rfl (Ra rfl) rfl) ?_
     refine Za ?_
     refine Zx <| DC.ret <| Aa <| Ae <| Aa <| Aa <| Ae <| Ae <| Aa <| Aa <| Ae <| Aa ?_
     refine Fin.weak (E' := [(6, .pointer (some ⟨g6, 0, none⟩)), (7, .bool false)]) (L' := [blk g6 77 #[.int .i64 0, .slice none 0 0, .slice none 0 0]]) ⟨rfl, rfl, trivial⟩ (.cons 4 rfl .nil) ?_
     refine AK (cs := #[_, _, _]) (.inl rfl) rfl rfl rfl Fp Cm ?_
     refine ⟨[], fun w hw => hw.sub (Rh _), rfl, _, _, _, _, _, _, _, false, rfl, ?_⟩
     simp only [Bool.false_eq_true, false_iff]
     rintro ⟨h1, _⟩
     have h2 := h1 i j hlt hjl hyes x y hx hy
     rw [h2] at c10
     simp at c10
    refine DC.skip <| Fin.then <| DC.region ?_
    refine Zf GI ?_
    refine Zl Fr ?_
    refine Zm ?_
    refine Zw (AM (cs := #[_]) rfl rfl Rw Cn DJ rfl (by decide) (by decide) rfl rfl) fun g60 => ?_
    refine Seq.gen rfl rfl (AR rfl rfl rfl Rw Cn KT DJ rfl (by decide) (by decide) (news := [.slice A' l' c']) (k := 1) (fun w hw => hw.perm (AE (i := 3) rfl).symm) (.inl ⟨_, _, rfl, Ai rfl⟩) rfl (fun u hu => by rw [List.mem_singleton.1 hu]; rfl) (by simp; omega)) ?_
    rintro v61 _ rfl
    simp only [List.eraseIdx_cons_succ, List.eraseIdx_cons_zero]
    refine Seq.shape (t := 44) (m := 1) (vs := pv2 ++ [.slice A' l' c']) 0 rfl ?_
    rintro ⟨A61, l61, c61, rfl⟩
    refine Zf GI ?_
    refine Zy (AB (cs' := #[_, _, _]) rfl rfl rfl Oo rfl (Ra rfl) rfl) ?_
    refine Seq.nil <| Fin.inBlock <| Fin.then <| DC.region ?_
    refine Zp ?_
    refine Zm ?_
    refine Seq.nil ?_
    have hjj : JJ m S i j := fun x' y' hx' hy' => by
     rw [hx] at hx'; rw [hy] at hy'; cases hx'; cases hy'
     simpa using c10
    refine Fin.again ⟨j + 1, .slice A61 l61 c61, pv2 ++ [.slice A' l' c']⟩ (by dsimp only; omega) ⟨by dsimp only; omega, by dsimp only; rw [ES, hyes, List.length_append, hpv2]; simp; omega, fun b hb hw => ?_⟩ ⟨rfl, rfl, rfl, rfl, rfl, rfl, rfl, rfl, rfl, rfl, rfl, rfl, rfl, trivial⟩ (.cons 2 rfl (.cons 2 rfl (.cons 0 rfl (.cons 1 rfl (.cons 1 rfl (BD _ _))))))
    rcases Re.1 hb with hb | rfl
    ·exact hJ2 b hb hw
    exact hjj
   iterate 6 refine Zk ?_
   iterate 2 refine Zg ?_
   refine Zx ?_
   refine Ba rfl ?_
   refine DC.skip <| Fin.then <| DC.seq ?_
   have hyes : wantP k i j = true := by
    first
    | (simp at k8_3 k8_6 k8_9 c8; simp [wantP]; omega)
    | (simp at k8_3 k8_6; simp [wantP, k8_6]; omega)
   refine DC.region ?_
   iterate 3 refine Zm ?_
   refine Seq.gen rfl rfl (AQ NP rfl rfl rfl (Lc := mpc encP gm m :: ([slc (.slice (some ad) S.length c) 3 1 (ints S), slc v2 44 1 pv2, blk g8 77 #[.int .i64 k, .slice (some ad) S.length c, v2], blk g6 77 #[.int .i64 0, .slice none 0 0, .slice none 0 0]] ++ rowsC 3 cs)) (F := []) (by rw [List.append_nil]; exact .refl _) (fun k hk => hk) (fun w' hw => Dq hw.self hm hs)) ?_
   rintro _ _ ⟨_, ⟨rfl, A', l', c', rfl⟩, rfl⟩
   rw [List.append_nil]
   simp only [zs]
   refine Zm ?_
   iterate 2 refine Ze ?_
   iterate 2 refine Za ?_
   refine Zx <| DC.seq <| Zs ?_
   refine Zm ?_
   refine Zo (Bb rfl rfl) ?_
   refine Zx ?_
   refine Zd (fun c10 => ?_) fun c10 => ?_
   ·refine Zs ?_
    refine Zo (As (cs := #[_, _, _]) rfl rfl JW rfl rfl) ?_
    refine Zy (Ah (cs' := #[_, _, _]) rfl rfl rfl Cm rfl (Ra rfl) rfl) ?_
    refine Za ?_
    refine Zx <| DC.ret <| Aa <| Ae <| Aa <| Aa <| Ae <| Ae <| Aa <| Aa <| Ae <| Aa ?_
    refine Fin.weak (E' := [(6, .pointer (some ⟨g6, 0, none⟩)), (7, .bool false)]) (L' := [blk g6 77 #[.int .i64 0, .slice none 0 0, .slice none 0 0]]) ⟨rfl, rfl, trivial⟩ (.cons 4 rfl .nil) ?_
    refine AK (cs := #[_, _, _]) (.inl rfl) rfl rfl rfl Fp Cm ?_
    refine ⟨[], fun w hw => hw.sub (Rh _), rfl, _, _, _, _, _, _, _, false, rfl, ?_⟩
    simp only [Bool.false_eq_true, false_iff]
    rintro ⟨h1, _⟩
    have h2 := h1 i j hlt hjl hyes x y hx hy
    rw [h2] at c10
    simp at c10
   refine DC.skip <| Fin.then <| DC.region ?_
   refine Zf GI ?_
   refine Zl Fr ?_
   refine Zm ?_
   refine Zw (AM (cs := #[_]) rfl rfl Rw Cn DJ rfl (by decide) (by decide) rfl rfl) fun g60 => ?_
   refine Seq.gen rfl rfl (AR rfl rfl rfl Rw Cn KT DJ rfl (by decide) (by decide) (news := [.slice A' l' c']) (k := 1) (fun w hw => hw.perm (AE (i := 3) rfl).symm) (.inl ⟨_, _, rfl, Ai rfl⟩) rfl (fun u hu => by rw [List.mem_singleton.1 hu]; rfl) (by simp; omega)) ?_
   rintro v61 _ rfl
   simp only [List.eraseIdx_cons_succ, List.eraseIdx_cons_zero]
   refine Seq.shape (t := 44) (m := 1) (vs := pv2 ++ [.slice A' l' c']) 0 rfl ?_
   rintro ⟨A61, l61, c61, rfl⟩
   refine Zf GI ?_
   refine Zy (AB (cs' := #[_, _, _]) rfl rfl rfl Oo rfl (Ra rfl) rfl) ?_
   refine Seq.nil <| Fin.inBlock <| Fin.then <| DC.region ?_
   refine Zp ?_
   refine Zm ?_
   refine Seq.nil ?_
   have hjj : JJ m S i j := fun x' y' hx' hy' => by
    rw [hx] at hx'; rw [hy] at hy'; cases hx'; cases hy'
    simpa using c10
   refine Fin.again ⟨j + 1, .slice A61 l61 c61, pv2 ++ [.slice A' l' c']⟩ (by dsimp only; omega) ⟨by dsimp only; omega, by dsimp only; rw [ES, hyes, List.length_append, hpv2]; simp; omega, fun b hb hw => ?_⟩ ⟨rfl, rfl, rfl, rfl, rfl, rfl, rfl, rfl, rfl, rfl, rfl, rfl, rfl, trivial⟩ (.cons 2 rfl (.cons 2 rfl (.cons 0 rfl (.cons 1 rfl (.cons 1 rfl (BD _ _))))))
   rcases Re.1 hb with hb | rfl
   ·exact hJ2 b hb hw
   exact hjj
  refine DC.exit <| Ad <| Ad <| Ag <| Fin.inBlock <| Fin.then <| DC.region ?_
  refine Zp ?_
  refine Zm ?_
  refine Seq.nil ?_
  have hje : j = S.length := by simp at c6; omega
  subst hje
  refine Fin.again ⟨i + 1, v2, pv2⟩ (by dsimp only; omega) ⟨by dsimp only; omega, hpv2, fun a b ha hb hw => ?_⟩ ⟨rfl, rfl, rfl, rfl, rfl, rfl, rfl, rfl, trivial⟩ (Pick.all _)
  rcases Re.1 ha with ha | rfl
  ·exact hJ a b ha hb hw
  exact hJ2 b hb hw
 refine DC.exit <| Ad <| Ad <| Ag <| Fin.then <| DC.seq <| DC.seq ?_
 have hie : i = S.length := by simp at c3; omega
 subst hie
 have hb1 := NT k S.length S.length
 have hb2 : S.length * S.length ≤ 6 * 6 := Nat.mul_le_mul (by omega) (by omega)
 refine F1 (i := 2) rfl ?_
 rintro Av cv rfl hAv
 refine DC.region ?_
 refine Zf GI ?_
 refine Zl Fr ?_
 refine Zn Rw ?_
 refine Zm ?_
 refine Zu (IJ 0 rfl rfl rfl Tryz.underlying205) ?_
 refine Zo (BQ rfl rfl rfl) ?_
 refine Zx ?_
 refine Zd (fun c15 => ?_) fun c15 => ?_
 ·refine Zs ?_
  refine Zo (As (cs := #[_, _, _]) rfl rfl JW rfl rfl) ?_
  refine Zy (Ah (cs' := #[_, _, _]) rfl rfl rfl Cm rfl (Ra rfl) rfl) ?_
  refine Za ?_
  refine Zx <| DC.ret <| Aa ?_
  refine Fin.weak (E' := [(6, .pointer (some ⟨g6, 0, none⟩)), (7, .bool false)]) (L' := [blk g6 77 #[.int .i64 0, .slice none 0 0, .slice none 0 0]]) ⟨rfl, rfl, trivial⟩ (.cons 4 rfl .nil) ?_
  refine AK (cs := #[_, _, _]) (.inl rfl) rfl rfl rfl Fp Cm ?_
  refine ⟨[], fun w hw => hw.sub (Rh _), rfl, _, _, _, _, _, _, _, false, rfl, ?_⟩
  simp only [Bool.false_eq_true, false_iff]
  rintro ⟨_, h2⟩
  simp at c15
  omega
 refine DC.skip <| Fin.then <| Zs ?_
 refine Zu (Aq (vs := [_, _, _]) rfl rfl Fp Cm rfl (Ai rfl)) ?_
 refine Zy (Ah (cs' := #[_, _, _]) rfl rfl rfl Cm rfl (Ra rfl) rfl) ?_
 refine Za ?_
 refine Zx <| DC.ret ?_
 refine Fin.weak (E' := [(6, .pointer (some ⟨g6, 0, none⟩)), (7, .bool true)]) (L' := [blk g6 77 #[.int .i64 k, .slice A S.length c, .slice Av pv.length cv]]) ⟨rfl, rfl, trivial⟩ (.cons 4 rfl .nil) ?_
 refine AK (cs := #[_, _, _]) (.inl rfl) rfl rfl rfl Fp Cm ?_
 refine ⟨[], fun w hw => hw.sub (Rh _), rfl, _, _, _, _, _, _, _, true, rfl, ?_⟩
 simp only [true_iff]
 exact ⟨fun i j hi hj hw => hJ i j hi hj hw, by simp at c15; omega⟩
end Go.Fl

namespace Go.Fl
open Go Go.Proofs
open Classical
theorem FO {κ : Type} [DecidableEq κ] (m : List (κ × Value)) (q : κ) : (lkM m q).isSome = decide (q ∈ m.map (·.1)) := by
 cases h : lkM m q with
 | none => simpa using Gu h
 | some v =>
  have : q ∈ m.map (·.1) := List.mem_map.2 ⟨_, FP h, rfl⟩
  simp only [Option.isSome_some]
  exact (decide_eq_true this).symm
structure ReI where
 i : Nat
 m : List (Pr × Value)
/-- The map from the ends of the chains, of the first i. -/
structure MapE (E : List Pr) (cs : RL) (i : Nat) (m : List (Pr × Value)) : Prop where
 keys : m.map (·.1) = E.take i
 nd : (E.take i).Nodup
 ne : ∀ p, p ∈ E.take i → p.1 ≠ p.2
 row : MapR m cs
theorem MapE.next {E : List Pr} {cs : RL} {i : Nat} {m : List (Pr × Value)} (h : MapE E cs i m) {q : Pr} (hq : E[i]? = some q) (hno : q ∉ m.map (·.1)) (hne : q.1 ≠ q.2) {p : Value × List Int} (hp : p ∈ cs) : MapE E cs (i + 1) (putM q p.1 m) := by
 have hk : (putM q p.1 m).map (·.1) = m.map (·.1) ++ [q] := by
  rw [D9, FO, if_neg (by simpa using hno)]
 have ht : E.take (i + 1) = E.take i ++ [q] := by rw [List.take_add_one, hq]; rfl
 refine ⟨by rw [hk, ht, h.keys], ?_, ?_, ?_⟩
 ·rw [ht, List.nodup_append]
  refine ⟨h.nd, by simp, fun a ha b hb e => ?_⟩
  simp at hb; subst hb; subst e
  rw [← h.keys] at ha
  exact hno ha
 ·intro x hx
  rw [ht] at hx
  rcases List.mem_append.1 hx with hx | hx
  ·exact h.ne x hx
  simp at hx; subst hx; exact hne
 intro x v hv
 rw [Do] at hv
 split at hv
 ·cases hv; exact ⟨p, hp, rfl⟩
 exact h.row x v hv
theorem Mx (es : List Pr) (k : Nat) : (endsU es k).length = (selU es k).length := by simp [endsU]
theorem Ia {m : List (Pr × Value)} {E : List Pr} (hlk : ∀ q, (lkM m q).isSome = decide (q ∈ E)) {S : List Int} {i j : Nat} {x y : Int} (hx : S[i]? = some x) (hy : S[j]? = some y) : JJ m S i j ↔ srt x y ∈ E := by
 unfold JJ
 constructor
 ·intro h
  have := h x y hx hy
  rw [hlk] at this
  simpa using this
 intro h x' y' hx' hy'
 rw [hx] at hx'; rw [hy] at hy'; cases hx'; cases hy'
 rw [hlk]; simpa using h
theorem kp5 {EU : List Pr} {B : List Int} {m : List (Pr × Value)} (hg : GoodE EU) (hl : B.length = 5) (hlk : ∀ q, (lkM m q).isSome = decide (q ∈ EU)) (hml : m.length = EU.length) :
  ((∀ i j, i < B.length → j < B.length → wantP 1 i j = true → JJ m B i j) ∧ cw 1 B.length B.length = m.length) ↔ KP EU B 4 := by
 have hc : cw 1 5 5 = 10 := by decide
 have key : (∀ i j, i < B.length → j < B.length → wantP 1 i j = true → JJ m B i j) ↔ ∀ q, q ∈ pairsOf B → q ∈ EU := by
  constructor
  ·intro h q hq
   obtain ⟨i, j, x, y, hij, hx, hy, rfl⟩ := DT.1 hq
   exact (Ia hlk hx hy).1 (h i j (Q9.1 hx).1 (Q9.1 hy).1 (by simp [wantP, hij]))
  intro h i j hi hj hw
  obtain ⟨x, hx⟩ : ∃ x, B[i]? = some x := ⟨_, Q8 hi⟩
  obtain ⟨y, hy⟩ : ∃ y, B[j]? = some y := ⟨_, Q8 hj⟩
  refine (Ia hlk hx hy).2 (h _ (DT.2 ⟨i, j, x, y, ?_, hx, hy, rfl⟩))
  simp [wantP] at hw
  exact hw
 rw [key, hl, hc, hml]
 unfold KP
 constructor
 ·rintro ⟨h1, h2⟩
  exact ⟨hg, .inl ⟨hl, rfl, h1, h2.symm⟩⟩
 rintro ⟨_, ⟨_, _, h1, h2⟩ | ⟨_, h, _⟩⟩
 ·exact ⟨h1, h2.symm⟩
 omega
theorem kp33 {EU : List Pr} {B : List Int} {m : List (Pr × Value)} (hg : GoodE EU) (hl : B.length = 6) (hlk : ∀ q, (lkM m q).isSome = decide (q ∈ EU)) (hml : m.length = EU.length) :
  ((∀ i j, i < (sidesOf EU B).length → j < (sidesOf EU B).length → wantP 2 i j = true → JJ m (sidesOf EU B) i j) ∧ cw 2 (sidesOf EU B).length (sidesOf EU B).length = m.length) ↔ KP EU B 3 := by
 have hc : cw 2 6 6 = 9 := by decide
 have hsl : (sidesOf EU B).length = 6 := (Gc EU B).length_eq.trans hl
 have key : (∀ i j, i < (sidesOf EU B).length → j < (sidesOf EU B).length → wantP 2 i j = true → JJ m (sidesOf EU B) i j) ↔ ∀ q, q ∈ crossOf (sidesOf EU B) → q ∈ EU := by
  constructor
  ·intro h q hq
   obtain ⟨i, j, x, y, hi, hj, hx, hy, rfl⟩ := FA.1 hq
   exact (Ia hlk hx hy).1 (h i j (Q9.1 hx).1 (Q9.1 hy).1 (by simp [wantP, hi, hj]; omega))
  intro h i j hi hj hw
  obtain ⟨x, hx⟩ : ∃ x, (sidesOf EU B)[i]? = some x := ⟨_, Q8 hi⟩
  obtain ⟨y, hy⟩ : ∃ y, (sidesOf EU B)[j]? = some y := ⟨_, Q8 hj⟩
  simp [wantP] at hw
  exact (Ia hlk hx hy).2 (h _ (FA.2 ⟨i, j, x, y, hw.2.1, hw.2.2, hx, hy, rfl⟩))
 rw [key, hsl, hc, hml]
 unfold KP
 constructor
 ·rintro ⟨h1, h2⟩
  exact ⟨hg, .inr ⟨hl, rfl, h1, h2.symm⟩⟩
 rintro ⟨_, ⟨_, h, _⟩ | ⟨_, _, h1, h2⟩⟩
 ·omega
 exact ⟨h1, h2.symm⟩
theorem FG {n : Nat} {es : List Pr} {va : Value} {w : World} (hg : PrV w va es) (hV : Vld n es) :
  Calls Tryz.prog 98 #[.agg #[.int .i64 n, va]] w (Ret w [] fun r M => M = [] ∧ ∃ k0 A0 l0 c0 A1 l1 c1 b, r = .tuple #[.agg #[.int .i64 k0, .slice A0 l0 c0, .slice A1 l1 c1], .bool b, .int .i64 0] ∧ (b = true ↔ KuraOk n es)) := by
 have hg0 := hg
 obtain ⟨A, cap, rfl, hr, hlc, hcm, hle⟩ := hg
 have hfew := hV.few
 have hno : ∀ {L : List Chunk} {w' : World}, Own w [] w' L → Own w [] w' [] := fun hw => hw.sub (Rh _)
 refine Ao (args := [_]) (L := []) Tryz.func98 rfl Tryz.ntmps98 rfl (Own.start _ _) ?_
 refine Zs ?_
 refine Zw (AX rfl rfl rfl) fun g1 => ?_
 refine Zw (Ay rfl LU rfl) fun g2 => ?_
 iterate 2 refine Za ?_
 refine Zx <| Zs ?_
 refine Zu (Aq (vs := [_, _]) rfl rfl Bs Bd rfl (Ai rfl)) ?_
 refine Seq.rel rfl rfl (Am O8 rfl rfl rfl (fun w' hw => HK n es A cap w' (hr.keep0 hw) (by omega))) ?_
 intro v23 L23 hC23
 obtain ⟨_, M, hP, rfl, rfl⟩ := hC23.resolve_left (fun h => h.1 hV)
 simp only [adjL, List.cons_append, List.nil_append]
 refine Zm ?_
 iterate 2 refine Ze ?_
 iterate 2 refine Za ?_
 refine Zx <| DC.seq <| Zs ?_
 refine Zm ?_
 refine Zo (BQ rfl rfl rfl) ?_
 refine Zx ?_
 refine Zd (fun c2 => ?_) fun c2 => ?_
 ·refine Zs ?_
  refine Zo (As (cs := #[_, _, _]) rfl rfl JW rfl rfl) ?_
  refine Zm ?_
  refine Zy (Ah (cs' := #[_, _, _]) rfl rfl rfl Cm rfl (Ra rfl) rfl) ?_
  iterate 2 refine Za ?_
  refine Zx <| DC.ret <| Aa ?_
  refine BP (cs := #[_, _, _]) (.inl rfl) rfl rfl rfl rfl Fp Cm ?_
  simp at c2
 refine DC.skip <| Fin.then <| Zs ?_
 refine Zm ?_
 refine Seq.rel rfl rfl (Am QN rfl rfl rfl (fun w' hw => Gz (Iz hw (.cons 0 rfl (.cons 0 rfl (.cons 0 rfl (.cons 0 rfl (.cons 0 rfl .nil))))) hP))) ?_
 intro v32 L32 hC32
 obtain ⟨A', l', c', d, rfl, hD32⟩ : ∃ A' l' c' d, v32 = .tuple #[.slice A' l' c', .int .i64 (d : Nat)] ∧
   ((l' = (brV es n).length ∧ L32 = [slc (.slice A' (brV es n).length c') 3 1 (ints (brV es n))] ∧ ∀ u, u ∈ brV es n → degV es u = d) ∨ (l' = 0 ∧ ¬ ∃ d, ∀ u, u ∈ brV es n → degV es u = d)) := by
  rcases hC32 with ⟨A', c', d, h1, h2, h3⟩ | ⟨h1, _, h3⟩
  ·exact ⟨A', _, c', d, h1, .inl ⟨rfl, h2, h3⟩⟩
  exact ⟨none, 0, 0, 0, h1, .inr ⟨rfl, h3⟩⟩
 clear hC32
 refine Seq.own (M := blk g2 77 #[.int .i64 0, .slice none 0 0, .slice none 0 0] :: blk g1 24 #[.int .i64 n, .slice A es.length cap] :: L32) (fun w hw => (hw.sub (L' := L32 ++ [blk g2 77 #[.int .i64 0, .slice none 0 0, .slice none 0 0], blk g1 24 #[.int .i64 n, .slice A es.length cap]]) ((List.Sublist.refl L32).append (((((List.Sublist.refl _).cons _).cons _).cons _).cons _ |>.cons _))).perm (Rr (l₁ := [_, _]))) ?_
 refine Zm ?_
 iterate 2 refine Ze ?_
 iterate 2 refine Za ?_
 refine Zx <| DC.seq ?_
 refine DC.cut (ι := Bool) (fun b => b = true ↔ ¬ ((l' = 5 ∧ d = 4) ∨ (l' = 6 ∧ d = 3)))
  (fun b => [(1, .pointer (some ⟨g1, 0, none⟩)), (2, .pointer (some ⟨g2, 0, none⟩)), (7, .slice A' l' c'), (8, .int .i64 d), (52, .bool b)])
  (fun _ => blk g2 77 #[.int .i64 0, .slice none 0 0, .slice none 0 0] :: blk g1 24 #[.int .i64 n, .slice A es.length cap] :: L32) ?first5 ?rest5
 case first5 =>
  refine DC.region ?_
  refine Zm ?_
  refine Zn Rt ?_
  refine Zo (AW rfl rfl rfl) ?_
  refine Zm ?_
  refine Seq.split 38 rfl (fun k5_3 => ?_) (fun k5_3 => ?_)
  ·refine Zm ?_
   refine Zo (AW rfl rfl rfl) ?_
   refine Zt ?_
   refine Zo (Bb rfl rfl) ?_
   refine Zm ?_
   refine Seq.split 43 rfl (fun k5_8 => ?_) (fun k5_8 => ?_)
   ·refine Zm ?_
    refine Zn Rt ?_
    refine Zo (AW rfl rfl rfl) ?_
    refine Zm ?_
    refine Seq.split 47 rfl (fun k5_12 => ?_) (fun k5_12 => ?_)
    ·refine Zm ?_
     refine Zo (AW rfl rfl rfl) ?_
     refine Zt ?_
     refine Zo (Bb rfl rfl) ?_
     refine Zt ?_
     refine Seq.nil ?_
     refine AO _ ?_ ⟨rfl, rfl, rfl, rfl, rfl, trivial⟩ (Pick.all _)
     simp at *
     omega
    iterate 2 refine Zk ?_
    refine Zg ?_
    refine Zo (Bb rfl rfl) ?_
    refine Zt ?_
    refine Seq.nil ?_
    refine AO _ ?_ ⟨rfl, rfl, rfl, rfl, rfl, trivial⟩ (Pick.all _)
    simp at *
    omega
   iterate 8 refine Zk ?_
   refine Zg ?_
   refine Seq.nil ?_
   refine AO _ ?_ ⟨rfl, rfl, rfl, rfl, rfl, trivial⟩ (Pick.all _)
   simp at *
   omega
  iterate 2 refine Zk ?_
  refine Zg ?_
  refine Zo (Bb rfl rfl) ?_
  iterate 2 refine Zm ?_
  refine Zn Rt ?_
  refine Zo (AW rfl rfl rfl) ?_
  refine Zm ?_
  refine Seq.split 47 rfl (fun k5_12 => ?_) (fun k5_12 => ?_)
  ·refine Zm ?_
   refine Zo (AW rfl rfl rfl) ?_
   refine Zt ?_
   refine Zo (Bb rfl rfl) ?_
   refine Zt ?_
   refine Seq.nil ?_
   refine AO _ ?_ ⟨rfl, rfl, rfl, rfl, rfl, trivial⟩ (Pick.all _)
   simp at *
   omega
  iterate 2 refine Zk ?_
  refine Zg ?_
  refine Zo (Bb rfl rfl) ?_
  refine Zt ?_
  refine Seq.nil ?_
  refine AO _ ?_ ⟨rfl, rfl, rfl, rfl, rfl, trivial⟩ (Pick.all _)
  simp at *
  omega
 rintro b5 hb5
 refine Zd (fun c5 => ?_) fun c5 => ?_
 ·refine Zs ?_
  refine Zo (As (cs := #[_, _, _]) rfl rfl JW rfl rfl) ?_
  refine Zy (Ah (cs' := #[_, _, _]) rfl rfl rfl Cm rfl (Ra rfl) rfl) ?_
  iterate 2 refine Za ?_
  refine Zx <| DC.ret <| Aa ?_
  refine Fin.weak (E' := [(2, .pointer (some ⟨g2, 0, none⟩)), (3, .bool false), (4, .int .i64 0)]) (L' := [blk g2 77 #[.int .i64 0, .slice none 0 0, .slice none 0 0]]) ⟨rfl, rfl, rfl, trivial⟩ (.cons 0 rfl .nil) ?_
  refine BP (cs := #[_, _, _]) (.inl rfl) rfl rfl rfl rfl Fp Cm ?_
  refine ⟨[], fun w hw => hw.sub (Rh _), rfl, _, _, _, _, _, _, _, false, rfl, ?_⟩
  simp only [Bool.false_eq_true, false_iff]
  rintro ⟨d', hd', hK⟩
  have h5 := hb5.1 c5
  rcases hD32 with ⟨hl', _, hd⟩ | ⟨_, hno2⟩
  ·have hdd : brV es n ≠ [] → d = d' := fun hne => by
    obtain ⟨u, hu⟩ := List.exists_mem_of_ne_nil _ hne
    rw [← hd u hu, hd' u hu]
   rcases hK.2 with ⟨k1, k2, _⟩ | ⟨k1, k2, _⟩
   ·have := hdd (fun e => by rw [e] at k1; simp at k1)
    exact h5 (.inl ⟨by omega, by omega⟩)
   have := hdd (fun e => by rw [e] at k1; simp at k1)
   exact h5 (.inr ⟨by omega, by omega⟩)
  exact hno2 ⟨d', hd'⟩
 refine DC.skip <| Fin.then <| DC.seq ?_
 have hld : (l' = 5 ∧ d = 4) ∨ (l' = 6 ∧ d = 3) := by
  apply Classical.byContradiction
  intro h
  rw [hb5.2 h] at c5; cases c5
 obtain ⟨rfl, rfl, hd⟩ := hD32.resolve_right (fun h => by have := h.1; omega)
 refine DC.region ?_
 refine Zu (Aq (vs := [_, _]) rfl rfl Bs Bd rfl (Ai rfl)) ?_
 refine Seq.rel rfl rfl (Am QM rfl rfl rfl (fun w' hw => IE (hg0.keep0 hw) hV)) ?_
 rintro _ _ ⟨v9, cs, rfl, hch, rfl⟩
 refine Seq.own (M := slc v9 44 1 (rowsV cs) :: blk g2 77 #[.int .i64 0, .slice none 0 0, .slice none 0 0] :: blk g1 24 #[.int .i64 n, .slice A es.length cap] :: slc (.slice A' (brV es n).length c') 3 1 (ints (brV es n)) :: rowsC 3 cs) (fun w hw => hw.perm (List.Perm.cons _ (Rr (l₁ := [_, _, _]) (l₂ := rowsC 3 cs)))) ?_
 refine Zm ?_
 iterate 2 refine Ze ?_
 iterate 2 refine Za ?_
 refine Zx <| Zs ?_
 refine Seq.rel rfl rfl (CH (enc := encP) rfl) ?_
 rintro _ _ ⟨gm, rfl, rfl⟩
 simp only [zs]
 refine Za ?_
 refine Zx <| DC.seq <| DC.seq ?_
 obtain ⟨EU, hEU⟩ : ∃ EU, EU = endsU es es.length := ⟨_, rfl⟩
 have hEl : EU.length = cs.length := by rw [hEU, Mx, hch.len]
 have hcsl : cs.length ≤ es.length := by rw [hch.len]; exact Gd _
 have hrows : ∀ p, p ∈ cs → p.2.length ≤ 1000000000 := fun p hp => by
  obtain ⟨j, hj⟩ := Rf.1 hp
  obtain ⟨e, he⟩ : ∃ e, (selU es es.length)[j]? = some e := ⟨_, Q8 (by rw [← hch.len]; exact (Q9.1 hj).1)⟩
  have := (hch.at' j e p he hj).2.2
  omega
 refine F1 (i := 1) (v := v9) rfl ?_
 rintro A9 c9 rfl hA9
 rw [rowsV_length]
 refine DC.region ?_
 refine Zm ?_
 refine Zn Rw ?_
 refine Zm ?_
 refine Zx <| DC.block ?_
 refine DC.loop (ι := ReI) (fun j => j.i ≤ cs.length ∧ MapE EU cs j.i j.m)
  (fun j => [(2, .pointer (some ⟨g2, 0, none⟩)), (7, .slice A' (brV es n).length c'), (8, .int .i64 d), (11, .map (some gm)), (60, .slice A9 cs.length c9), (61, .int .i64 cs.length), (62, .int .i64 j.i)])
  (fun j => mpc encP gm j.m :: slc (.slice A9 cs.length c9) 44 1 (rowsV cs) :: blk g2 77 #[.int .i64 0, .slice none 0 0, .slice none 0 0] :: slc (.slice A' (brV es n).length c') 3 1 (ints (brV es n)) :: rowsC 3 cs) (fun j => cs.length - j.i) ⟨0, []⟩
  ⟨Nat.zero_le _, rfl, by simp, by simp, fun _ _ h => by cases h⟩ ⟨rfl, rfl, rfl, rfl, rfl, rfl, rfl, trivial⟩ (.cons 0 rfl (.cons 0 rfl (.cons 0 rfl (.cons 1 rfl (BD _ _))))) ?_
 rintro ⟨i, m⟩ ⟨hi, hmE⟩
 dsimp only at hi hmE ⊢
 refine Zs ?_
 refine Zc ?_
 refine Zx <| DC.seq ?_
 refine Zd (fun c10 => ?_) fun c10 => ?_
 ·have hlt : i < cs.length := by simpa using c10
  obtain ⟨p, hp⟩ : ∃ p, cs[i]? = some p := ⟨_, Q8 hlt⟩
  obtain ⟨e, he⟩ : ∃ e, (selU es es.length)[i]? = some e := ⟨_, Q8 (by rw [← hch.len]; exact hlt)⟩
  obtain ⟨⟨p0, q0, hp0, hq0, hw1, hw2⟩, hpl, hpu⟩ := hch.at' i e p he hp
  have hEUi : EU[i]? = some (srt (endA es e) (endB es e)) := by rw [hEU]; unfold endsU; rw [List.getElem?_map, he]; rfl
  obtain ⟨ad9, rfl⟩ := hA9 (fun e => by have := congrArg List.length e; simp at this; rw [this] at hlt; simp at hlt)
  refine DC.skip <| Fin.then <| DC.seq <| DC.block <| Zs ?_
  refine Zo (Aw (ad' := ad9.add i) rfl rfl rfl Rw Cn (by omega) (by omega) rfl) ?_
  refine Zu (Ak rfl rfl BS (Jv (i := 1) (q := p.1) rfl (by simp [rowsV, hp]))) ?_
  refine Za ?_
  refine Zx <| DC.seq ?_
  refine DC.slcs (v := p.1) (i := i + 4) (xs := p.2) (t := 3) (by simp [rowsC, hp]) (by omega) ?_
  rintro A3 c3 hp1 hA3
  obtain ⟨ad3, rfl⟩ := hA3 (fun e => by rw [e] at hp0; simp at hp0)
  have hrow : ∀ {F : List Chunk} (a b c d : Chunk), (a :: b :: c :: d :: rowsC 3 cs)[i + 4]? = some (slc (.slice (some ad3) p.2.length c3) 3 1 (ints p.2)) := fun a b c d => by rw [← hp1]; simp [rowsC, hp]
  rw [hp1]
  refine AC (cl := [.q, .q, .v, .q, .q, .q, .q, .q, .v, .q, .n, .g]) (A := [0, 1, 3, 0, 0, 16, 48, 120, 248, 511, 0, 2047]) (order := [0, 1, 2, 3, 4, 5, 6, 7, 8, 9, 10, 11]) [] mixed (by kernel_rfl) (fun w hw => hw.pick .nil) ?_
  refine Ym ?_
  refine Yo rfl (Aw (ad' := ad3.add 0) rfl rfl rfl Rt AN (by omega) (by omega) rfl) ?_
  refine Ar rfl rfl rfl rfl (Ak rfl rfl AJ (BJ (t := 3) (i := i + 4) (l := p.2.length) (c := c3) (hrow (F := []) _ _ _ _) hp0 (by omega))) ?_
  iterate 2 refine Ym ?_
  refine Yo rfl (CY rfl rfl Rt) ?_
  refine Yo rfl (Ce rfl rfl rfl (by omega)) ?_
  refine Yo rfl (Aw (ad' := ad3.add (p.2.length - 1)) rfl rfl rfl Rt AN (by omega) (by omega) (by rw [show ((p.2.length : Int) - 1).toNat = p.2.length - 1 by omega])) ?_
  refine Ar rfl rfl rfl rfl (Ak rfl rfl AJ (BJ (t := 3) (i := i + 4) (l := p.2.length) (c := c3) (hrow (F := []) _ _ _ _) hq0 (by omega))) ?_
  refine Yo rfl (H3 (cs := #[.int .i64 p0, .int .i64 q0]) rfl rfl Tryz.underlying35 AN J7 rfl rfl rfl) ?_
  refine Be rfl rfl rfl rfl (Ay rfl J7 rfl) fun g14 => ?_
  refine Flow.sto (V := (blk g14 35 #[.int .i64 0, .int .i64 0] :: mpc encP gm m :: slc (.slice (some ad9) cs.length c9) 44 1 (rowsV cs) :: blk g2 77 #[.int .i64 0, .slice none 0 0, .slice none 0 0] :: slc (.slice A' (brV es n).length c') 3 1 (ints (brV es n)) :: rowsC 3 cs)) rfl rfl rfl rfl rfl (Ah (cs' := #[_, _]) rfl rfl rfl IO rfl (Ra rfl) rfl) (fun w hw => hw.pick (.nil)) ?_
  refine Flow.end rfl ?_
  simp only [zq, zr]
  refine Fin.then <| DC.seq <| Zs ?_
  refine Zm ?_
  refine Zu (Aq (vs := [_, _]) rfl rfl PI IO rfl (Ai rfl)) ?_
  refine Zu (Cz (k := (p0, q0)) (ok := true) 1 rfl Fi rfl rfl rfl Tryz.underlying205 DJ rfl) ?_
  refine Zm ?_
  iterate 2 refine Ze ?_
  iterate 2 refine Za ?_
  refine Zx <| Zs ?_
  iterate 2 refine Zm ?_
  refine Seq.split 83 rfl (fun k14_1 => ?_) (fun k14_1 => ?_)
  ·refine Zk ?_
   iterate 4 refine Zk ?_
   refine Zt ?_
   refine Zx ?_
   refine AG rfl ?_
   refine Zs ?_
   refine Zo (As (cs := #[_, _, _]) rfl rfl JW rfl rfl) ?_
   refine Zy (Ah (cs' := #[_, _, _]) rfl rfl rfl Cm rfl (Ra rfl) rfl) ?_
   iterate 2 refine Za ?_
   refine Zx <| DC.ret <| Aa <| Ae <| Aa <| Aa <| Ae <| Aa ?_
   refine Fin.weak (E' := [(2, .pointer (some ⟨g2, 0, none⟩)), (3, .bool false), (4, .int .i64 0)]) (L' := [blk g2 77 #[.int .i64 0, .slice none 0 0, .slice none 0 0]]) ⟨rfl, rfl, rfl, trivial⟩ (.cons 3 rfl .nil) ?_
   refine BP (cs := #[_, _, _]) (.inl rfl) rfl rfl rfl rfl Fp Cm ?_
   refine ⟨[], fun w hw => hw.sub (Rh _), rfl, _, _, _, _, _, _, _, false, rfl, ?_⟩
   simp only [Bool.false_eq_true, false_iff]
   rintro ⟨d', hd', hK, _⟩
   rw [← hEU] at hK
   have hin : (p0, q0) ∈ m.map (·.1) := by rw [FO] at k14_1; simpa using k14_1
   rw [hmE.keys] at hin
   by_cases hab : endA es e = endB es e
   ·exact hK.2 _ (Rc hEUi) (by unfold srt; simp only; omega)
   obtain ⟨e1, e2⟩ := hw2 hab
   have hpq : (p0, q0) = srt (endA es e) (endB es e) := by unfold srt; rw [e1, e2]
   rw [hpq] at hin
   obtain ⟨j, hj⟩ := Rf.1 hin
   rw [List.getElem?_take] at hj
   split at hj
   ·rename_i hji
    have := (List.getElem?_inj (by have := (Q9.1 hj).1; exact this) hK.1).1 (hj.trans hEUi.symm)
    omega
   cases hj
  refine Zo (C7 (ad' := ⟨g14, 0, none⟩) rfl rfl rfl Tryz.underlying35 AN (by omega) (by omega) (Az _ _)) ?_
  refine Zl AJ ?_
  refine Zo (C7 (ad' := ⟨g14, 1, none⟩) rfl rfl rfl Tryz.underlying35 AN (by omega) (by omega) (Az _ _)) ?_
  refine Zl AJ ?_
  refine Zo (AW rfl rfl rfl) ?_
  refine Zg ?_
  refine Zx ?_
  refine Zd (fun c14 => ?_) fun c14 => ?_
  ·refine Zs ?_
   refine Zo (As (cs := #[_, _, _]) rfl rfl JW rfl rfl) ?_
   refine Zy (Ah (cs' := #[_, _, _]) rfl rfl rfl Cm rfl (Ra rfl) rfl) ?_
   iterate 2 refine Za ?_
   refine Zx <| DC.ret <| Aa <| Ae <| Aa <| Aa <| Ae <| Aa ?_
   refine Fin.weak (E' := [(2, .pointer (some ⟨g2, 0, none⟩)), (3, .bool false), (4, .int .i64 0)]) (L' := [blk g2 77 #[.int .i64 0, .slice none 0 0, .slice none 0 0]]) ⟨rfl, rfl, rfl, trivial⟩ (.cons 3 rfl .nil) ?_
   refine BP (cs := #[_, _, _]) (.inl rfl) rfl rfl rfl rfl Fp Cm ?_
   refine ⟨[], fun w hw => hw.sub (Rh _), rfl, _, _, _, _, _, _, _, false, rfl, ?_⟩
   simp only [Bool.false_eq_true, false_iff]
   rintro ⟨d', hd', hK, _⟩
   rw [← hEU] at hK
   have hpq : p0 = q0 := by simpa using c14
   refine hK.2 _ (Rc hEUi) ?_
   by_cases hab : endA es e = endB es e
   ·unfold srt; simp only; omega
   obtain ⟨e1, e2⟩ := hw2 hab
   unfold srt; simp only; omega
  refine DC.skip <| Fin.then ?_
  have hne : p0 ≠ q0 := by simpa using c14
  have hab : endA es e ≠ endB es e := fun h => hne (hw1 h)
  obtain ⟨e1, e2⟩ := hw2 hab
  have hpq : (p0, q0) = srt (endA es e) (endB es e) := by unfold srt; rw [e1, e2]
  have hnin : (p0, q0) ∉ m.map (·.1) := by rw [FO] at k14_1; simpa using k14_1
  refine DC.region ?_
  refine Zm ?_
  refine Zu (Aq (vs := [_, _]) rfl rfl PI IO rfl (Ai rfl)) ?_
  refine Zm ?_
  refine Zy (BF (k := (p0, q0)) 1 rfl Fi rfl rfl rfl rfl Tryz.underlying205 rfl) ?_
  refine Seq.nil <| Fin.inBlock <| Fin.then <| DC.region ?_
  refine Zp ?_
  refine Zm ?_
  refine Seq.nil ?_
  refine Fin.again ⟨i + 1, putM (p0, q0) (.slice (some ad3) p.2.length c3) m⟩ (by dsimp only; omega) ⟨by dsimp only; omega, ?_⟩ ⟨rfl, rfl, rfl, rfl, rfl, rfl, rfl, trivial⟩ (BD _ _)
  dsimp only
  rw [← hp1]
  exact hmE.next (by rw [hpq]; exact hEUi) hnin hne (Rc hp)
 refine DC.exit <| Ad <| Ad <| Ag <| Fin.then <| DC.seq <| DC.seq ?_
 have hie : i = cs.length := by simp at c10; omega
 subst hie
 have hke : m.map (·.1) = EU := by rw [hmE.keys, ← hEl, List.take_length]
 have hgood : GoodE EU := by
  have h1 := hmE.nd
  have h2 := hmE.ne
  rw [← hEl, List.take_length] at h1 h2
  exact ⟨h1, h2⟩
 have hml : m.length = EU.length := by rw [← hke, List.length_map]
 have hlk : ∀ q, (lkM m q).isSome = decide (q ∈ EU) := fun q => by rw [FO, hke]; congr
 have hiff : KuraOk n es ↔ KP EU (brV es n) d := by
  rw [hEU]
  constructor
  ·rintro ⟨d', hd', hK⟩
   have hne : brV es n ≠ [] := fun e => by rw [e] at hld; simp at hld
   obtain ⟨u, hu⟩ := List.exists_mem_of_ne_nil _ hne
   have : d = d' := by rw [← hd u hu, hd' u hu]
   rw [this]; exact hK
  intro h; exact ⟨d, hd, h⟩
 refine DC.own (M := mpc encP gm m :: slc (.slice A' (brV es n).length c') 3 1 (ints (brV es n)) :: (rowsC 3 cs ++ [blk g2 77 #[.int .i64 0, .slice none 0 0, .slice none 0 0]])) (fun w hw => (hw.sub (L' := mpc encP gm m :: blk g2 77 #[.int .i64 0, .slice none 0 0, .slice none 0 0] :: slc (.slice A' (brV es n).length c') 3 1 (ints (brV es n)) :: rowsC 3 cs) ((List.Sublist.refl _).cons _ |>.cons_cons _)).perm (List.Perm.cons _ (Rr (l₁ := slc (.slice A' (brV es n).length c') 3 1 (ints (brV es n)) :: rowsC 3 cs) (l₂ := [blk g2 77 #[.int .i64 0, .slice none 0 0, .slice none 0 0]])))) ?_
 refine DC.region ?_
 refine Zm ?_
 refine Zo (AW rfl rfl rfl) ?_
 refine Zx ?_
 refine Zd (fun c18 => ?_) fun c18 => ?_
 ·refine Zs ?_
  iterate 2 refine Zm ?_
  refine Seq.gen rfl rfl (AQ O7 rfl rfl rfl (Lc := mpc encP gm m :: slc (.slice A' (brV es n).length c') 3 1 (ints (brV es n)) :: rowsC 3 cs) (F := [blk g2 77 #[.int .i64 0, .slice none 0 0, .slice none 0 0]]) (.refl _) (fun k hk => hk) (fun w' hw => Fx (hw.sub (L' := mpc encP gm m :: slc (.slice A' (brV es n).length c') 3 1 (ints (brV es n)) :: rowsC 3 cs) (List.sublist_append_left _ _)).self hmE.row hrows (by omega))) ?_
  rintro _ _ ⟨_, ⟨rfl, k0, A0, l0, c0, A1, l1, c1, bb, rfl, hbb⟩, rfl⟩
  simp only [List.nil_append]
  refine Zm ?_
  iterate 2 refine Ze ?_
  refine Zw (Ay rfl LU rfl) fun g17 => ?_
  refine Zy (Ah (cs' := #[_, _, _]) rfl rfl rfl Cm rfl (Ra rfl) rfl) ?_
  refine Za ?_
  refine Zx <| Zs ?_
  refine Zu (Aq (vs := [_, _, _]) rfl rfl Fp Cm rfl (Ai rfl)) ?_
  refine Zm ?_
  refine Zy (Ah (cs' := #[_, _, _]) rfl rfl rfl Cm rfl (Ra rfl) rfl) ?_
  iterate 2 refine Za ?_
  refine Zx <| DC.ret <| Aa ?_
  refine BP (cs := #[_, _, _]) (.inl rfl) rfl rfl rfl rfl Fp Cm ?_
  refine ⟨[], fun w hw => hw.sub (Rh _), rfl, _, _, _, _, _, _, _, bb, rfl, ?_⟩
  have hd4 : d = 4 := by simp at c18; omega
  rw [hbb, hiff, hd4]
  exact kp5 hgood (by omega) hlk hml
 refine DC.skip <| Fin.then <| Zs ?_
 iterate 2 refine Zm ?_
 refine Seq.gen rfl rfl (AQ QL rfl rfl rfl (Lc := mpc encP gm m :: slc (.slice A' (brV es n).length c') 3 1 (ints (brV es n)) :: rowsC 3 cs) (F := [blk g2 77 #[.int .i64 0, .slice none 0 0, .slice none 0 0]]) (.refl _) (fun k hk => hk) (fun w' hw => IZ (E := EU) (hw.sub (L' := mpc encP gm m :: slc (.slice A' (brV es n).length c') 3 1 (ints (brV es n)) :: rowsC 3 cs) (List.sublist_append_left _ _)).self hmE.row hrows (by omega) hlk)) ?_
 rintro vs _ ⟨_, rfl, rfl⟩
 have hsl : (sidesOf EU (brV es n)).length = (brV es n).length := (Gc _ _).length_eq
 refine Zm ?_
 refine Seq.gen rfl rfl (AQ O7 rfl rfl rfl (Lc := mpc encP gm m :: slc vs 3 1 (ints (sidesOf EU (brV es n))) :: rowsC 3 cs) (F := [blk g2 77 #[.int .i64 0, .slice none 0 0, .slice none 0 0]]) (.refl _) (fun k hk => hk) (fun w' hw => Fx (hw.sub (L' := mpc encP gm m :: slc vs 3 1 (ints (sidesOf EU (brV es n))) :: rowsC 3 cs) (List.sublist_append_left _ _)).self hmE.row hrows (by omega))) ?_
 rintro _ _ ⟨_, ⟨rfl, k0, A0, l0, c0, A1, l1, c1, bb, rfl, hbb⟩, rfl⟩
 simp only [List.nil_append]
 refine Zm ?_
 iterate 2 refine Ze ?_
 refine Zw (Ay rfl LU rfl) fun g19 => ?_
 refine Zy (Ah (cs' := #[_, _, _]) rfl rfl rfl Cm rfl (Ra rfl) rfl) ?_
 refine Za ?_
 refine Zx <| Zs ?_
 refine Zu (Aq (vs := [_, _, _]) rfl rfl Fp Cm rfl (Ai rfl)) ?_
 refine Zm ?_
 refine Zy (Ah (cs' := #[_, _, _]) rfl rfl rfl Cm rfl (Ra rfl) rfl) ?_
 iterate 2 refine Za ?_
 refine Zx <| DC.ret ?_
 refine BP (cs := #[_, _, _]) (.inl rfl) rfl rfl rfl rfl Fp Cm ?_
 refine ⟨[], fun w hw => hw.sub (Rh _), rfl, _, _, _, _, _, _, _, bb, rfl, ?_⟩
 have hd3 : d = 3 := by simp at c18; omega
 rw [hbb, hiff, hd3]
 exact kp33 hgood (by omega) hlk hml
end Go.Fl

namespace Go.Fl
open Go Go.Proofs
theorem Ka {gs gb m i : Nat} {a b : Int} {f : Nat → Bool} {w : World} (hs : w.heap[gs]? = some (.cells #[.slice (some ⟨gb, 0, none⟩) m m] 188 (0, 0))) (hb : w.heap[gb]? = some (.cells (bls m f).toArray 4 (0, 0))) (hi : i < m) :
  Calls Tryz.prog 124 #[.int .i64 i, .agg #[.int .i64 a, .int .i64 b], .pointer (some ⟨gs, 0, none⟩)] w (Ret w [] fun r M => M = [] ∧ r = .bool (f i)) := by
 refine Ao (args := [_, _, _]) (L := []) Tryz.func124 rfl Tryz.ntmps124 rfl (Own.start _ _) ?_
 refine Zs ?_
 refine Zw (AX rfl rfl rfl) fun g4 => ?_
 refine Za ?_
 refine Zx <| Zs ?_
 refine Zu (Ak rfl rfl N6 (AH hs rfl)) ?_
 refine Zm ?_
 refine Zi Rz IF ?_
 refine Zu (Ak rfl rfl MO (AH hb (FY f hi))) ?_
 refine Za ?_
 refine Zx <| DC.ret ?_
 refine Fin.weak (E' := [(5, _)]) ⟨rfl, trivial⟩ .nil ?_
 refine Zh ?_
 exact ⟨rfl, rfl⟩
/-- The edges at whose places f is true. -/
def kp (f : Nat → Bool) : Nat → List Pr → List Pr
 | _, [] => []
 | k, e :: r => if f k then e :: kp f (k + 1) r else kp f (k + 1) r
theorem Ns (f : Nat → Bool) : ∀ (a b : List Pr) (k : Nat), kp f k (a ++ b) = kp f k a ++ kp f (k + a.length) b
 | [], b, k => by simp [kp]
 | e :: r, b, k => by
  simp only [List.cons_append, kp, List.length_cons]
  rw [Ns f r b (k + 1), show k + 1 + r.length = k + (r.length + 1) by omega]
  split <;> simp
theorem Kw (f : Nat → Bool) : ∀ (a : List Pr) (k : Nat), (kp f k a).length ≤ a.length
 | [], k => by simp [kp]
 | e :: r, k => by
  have := Kw f r (k + 1)
  unfold kp
  split <;> simp <;> omega
theorem LC (f : Nat → Bool) {es : List Pr} {i : Nat} {e : Pr} (he : es[i]? = some e) : kp f 0 (es.take (i + 1)) = kp f 0 (es.take i) ++ if f i then [e] else [] := by
 have hl := (Q9.1 he).1
 rw [List.take_add_one, he, Ns]
 congr 1
 simp only [List.length_take, Nat.min_eq_left (Nat.le_of_lt hl), Nat.zero_add, Option.toList_some, kp]
structure KeI where
 i : Nat
 v : Value
theorem Kx {n : Int} {es : List Pr} {va : Value} {gs gb : Nat} {f : Nat → Bool} {w : World} (hg : PrV w va es) (hs : w.heap[gs]? = some (.cells #[.slice (some ⟨gb, 0, none⟩) es.length es.length] 188 (0, 0))) (hb : w.heap[gb]? = some (.cells (bls es.length f).toArray 4 (0, 0))) (hl : es.length ≤ 1000000000) :
  Calls Tryz.prog 123 #[.agg #[.int .i64 n, va], .func (.func 124) #[] #[.pointer (some ⟨gs, 0, none⟩)]] w (Ret w [] fun r M => M = [slc r 43 2 (prs (kp f 0 es))]) := by
 obtain ⟨A, cap, rfl, hr, hlc, hcm, hle⟩ := hg
 refine Ao (args := [_, _]) (L := []) Tryz.func123 rfl Tryz.ntmps123 rfl (Own.start _ _) ?_
 refine Zs ?_
 refine Zw (AX rfl rfl rfl) fun g2 => ?_
 refine Za ?_
 refine Zx <| Zs ?_
 refine Za ?_
 refine Zx <| DC.seq <| Zs ?_
 refine Zf Br ?_
 refine Zl B9 ?_
 refine Zn Ru ?_
 refine Zm ?_
 refine Zx <| DC.block ?_
 refine DC.own (fun w hw => AU (t := 43) (m := 2) hw) ?_
 refine DC.loop (ι := KeI) (fun j => j.i ≤ es.length)
  (fun j => [(1, .func (.func 124) #[] #[.pointer (some ⟨gs, 0, none⟩)]), (5, j.v), (9, .slice A es.length cap), (10, .int .i64 es.length), (11, .int .i64 j.i)])
  (fun j => [slc j.v 43 2 (prs (kp f 0 (es.take j.i)))]) (fun j => es.length - j.i) ⟨0, .slice none 0 0⟩ (Nat.zero_le _) ⟨rfl, rfl, rfl, rfl, rfl, trivial⟩ (.cons 0 rfl .nil) ?_
 rintro ⟨i, v⟩ hi
 dsimp only at hi ⊢
 refine Zs ?_
 refine Zc ?_
 refine Zx <| DC.seq ?_
 refine Zd (fun c3 => ?_) fun c3 => ?_
 ·have hlt : i < es.length := by simpa using c3
  obtain ⟨e, he⟩ : ∃ e, es[i]? = some e := ⟨_, Q8 hlt⟩
  obtain ⟨ad, rfl, hU, hVe⟩ := hr.pair he
  have hkl := Kw f (es.take i) 0
  rw [List.length_take] at hkl
  refine DC.skip <| Fin.then <| DC.seq <| DC.block <| Zs ?_
  refine Zm ?_
  refine Zo (AT rfl rfl rfl Ru AP (by omega) (by omega) (by first | exact Az _ _ | exact AS _ _ _ | rfl)) ?_
  refine Zu (Aq (vs := [_, _]) rfl rfl BW AP rfl (CC hU hVe (by simp))) ?_
  refine Zw (Ay rfl B6 rfl) fun g7 => ?_
  refine Za ?_
  refine Zy (Ah (cs' := #[_, _]) rfl rfl rfl AP rfl (Ra rfl) rfl) ?_
  refine Zx <| Zs ?_
  iterate 2 refine Zm ?_
  refine Zu (Aq (vs := [_, _]) rfl rfl BW AP rfl (Ai rfl)) ?_
  refine Seq.rel0 rfl rfl (Am QO rfl rfl rfl (fun w' hw => Ka (CP hw hs (by simp)) (CP hw hb (by simp)) hlt)) ?_
  rintro _ rfl
  refine Zx ?_
  refine Zd (fun c5 => ?_) fun c5 => ?_
  ·refine DC.region ?_
   refine Zm ?_
   refine Zu (Aq (vs := [_, _]) rfl rfl BW AP rfl (Ai rfl)) ?_
   refine Zw (AM (cs := #[_, _]) rfl rfl Ru AP B6 rfl (by decide) (by decide) rfl rfl) fun g22 => ?_
   refine Seq.gen rfl rfl (AR rfl rfl rfl Ru AP KU B6 rfl (by decide) (by decide) (fun w hw => hw.pick (.cons 2 rfl .nil)) (.inl ⟨_, _, rfl, Ai rfl⟩) rfl (FJ [e]) (by simp; omega)) ?_
   rintro v23 _ rfl
   refine Za ?_
   refine Seq.nil <| Fin.inBlock <| Fin.then <| DC.region ?_
   refine Zp ?_
   refine Zm ?_
   refine Seq.nil ?_
   refine Fin.again ⟨i + 1, v23⟩ (by dsimp only; omega) (by dsimp only; omega) ⟨rfl, rfl, rfl, rfl, rfl, trivial⟩ (.cons' 0 rfl (by dsimp only; rw [LC f he, if_pos c5, Cp]) .nil)
  refine DC.skip <| Fin.inBlock <| Fin.then <| DC.region ?_
  refine Zp ?_
  refine Zm ?_
  refine Seq.nil ?_
  refine Fin.again ⟨i + 1, v⟩ (by dsimp only; omega) (by dsimp only; omega) ⟨rfl, rfl, rfl, rfl, rfl, trivial⟩ (.cons' 1 rfl (by dsimp only; rw [LC f he, if_neg (by rw [c5]; simp), List.append_nil]) .nil)
 refine DC.exit <| Ad <| Ad <| Ag <| Fin.then <| Zs ?_
 refine Zm ?_
 refine Za ?_
 refine Zx <| DC.ret ?_
 have hie : i = es.length := by simp at c3; omega
 subst hie
 rw [List.take_length]
 refine Fin.weak (E' := [(4, _)]) (L' := [slc v 43 2 (prs (kp f 0 es))]) ⟨rfl, trivial⟩ (.cons 0 rfl .nil) ?_
 refine Zh ?_
 rfl
structure MdI where
 i : Nat
 v : Value
theorem Kt {n : Int} {es : List Pr} {va : Value} {w : World} (hg : PrV w va es) (hup : es.Pairwise Lex) (hlt : ∀ e, e ∈ es → e.1 < e.2) (hl : es.length ≤ 1000000000) :
  Calls Tryz.prog 122 #[.int .i64 n, va] w (Ret w [] fun r M => ∃ A l c, r = .agg #[.int .i64 n, .slice A l c] ∧ M = [slc (.slice A l c) 43 2 (prs es)]) := by
 obtain ⟨A, cap, rfl, hr, hlc, hcm, hle⟩ := hg
 refine Ao (args := [_, _]) (L := []) Tryz.func122 rfl Tryz.ntmps122 rfl (Own.start _ _) ?_
 refine Zs ?_
 refine Zw (Ay rfl FF rfl) fun g4 => ?_
 refine Zx <| Zs ?_
 refine Zm ?_
 refine Zn Ru ?_
 refine Zw (Lw (l := 0) (k := es.length) rfl rfl rfl Ru AP KU B6 rfl (by omega) (by omega) (by omega) (by omega) rfl) fun g10 => ?_
 refine Za ?_
 refine Zx <| DC.seq <| Zs ?_
 refine Zm ?_
 refine Zn Ru ?_
 refine Zm ?_
 refine Zx <| DC.block ?_
 refine DC.own (M := slc (.slice (some ⟨g10, 0, none⟩) 0 es.length) 43 2 [] :: [blk g4 24 #[.int .i64 0, .slice none 0 0]]) (fun w hw => B3 (vs := []) (m := 2) (len := 0) (cap := es.length) rfl (by decide) (by omega) (by omega) (by simp [madeCells]) rfl hw) ?_
 refine DC.loop (ι := MdI) (fun j => j.i ≤ es.length)
  (fun j => [(0, .int .i64 n), (4, .pointer (some ⟨g4, 0, none⟩)), (5, j.v), (11, .slice A es.length cap), (12, .int .i64 es.length), (13, .int .i64 j.i)])
  (fun j => slc j.v 43 2 (prs (es.take j.i)) :: [blk g4 24 #[.int .i64 0, .slice none 0 0]]) (fun j => es.length - j.i) ⟨0, _⟩ (Nat.zero_le _) ⟨rfl, rfl, rfl, rfl, rfl, rfl, trivial⟩ (.cons 0 rfl (.cons 0 rfl .nil)) ?_
 rintro ⟨i, v⟩ hi
 dsimp only at hi ⊢
 refine Zs ?_
 refine Zc ?_
 refine Zx <| DC.seq ?_
 refine Zd (fun c3 => ?_) fun c3 => ?_
 ·have hil : i < es.length := by simpa using c3
  obtain ⟨e, he⟩ : ∃ e, es[i]? = some e := ⟨_, Q8 hil⟩
  obtain ⟨ad, rfl, hU, hVe⟩ := hr.pair he
  have hee := hlt e (Rc he)
  have hmin : min e.1 e.2 = e.1 := by omega
  have hmax : max e.1 e.2 = e.2 := by omega
  refine DC.skip <| Fin.then <| DC.seq <| DC.block <| Zs ?_
  refine Zo (AT rfl rfl rfl Ru AP (by omega) (by omega) (by first | exact Az _ _ | exact AS _ _ _ | rfl)) ?_
  refine Zu (Aq (vs := [_, _]) rfl rfl BW AP rfl (CC hU hVe (by simp))) ?_
  refine Zw (Ay rfl B6 rfl) fun g7 => ?_
  refine Zy (Ah (cs' := #[_, _]) rfl rfl rfl AP rfl (Ra rfl) rfl) ?_
  refine Zx <| DC.region ?_
  refine Zm ?_
  refine Zf Bf ?_
  refine Zl AJ ?_
  refine Zf Bv ?_
  refine Zl AJ ?_
  refine Zo (Lk rfl rfl rfl) ?_
  refine Zf Bf ?_
  refine Zl AJ ?_
  refine Zf Bv ?_
  refine Zl AJ ?_
  refine Zo (Ll rfl rfl rfl) ?_
  refine Zo (As (cs := #[_, _]) rfl rfl E0 rfl rfl) ?_
  refine Zw (AM (cs := #[_, _]) rfl rfl Ru AP B6 rfl (by decide) (by decide) rfl rfl) fun g29 => ?_
  refine Seq.gen rfl rfl (AR rfl rfl rfl Ru AP KU B6 rfl (by decide) (by decide) (F := [blk g4 24 #[.int .i64 0, .slice none 0 0]]) (fun w hw => hw.pick (.cons 2 rfl (.cons 2 rfl .nil))) (.inl ⟨_, _, rfl, Ai rfl⟩) rfl (FJ [(min e.1 e.2, max e.1 e.2)]) (by simp; omega)) ?_
  rintro v30 _ rfl
  refine Za ?_
  refine Seq.nil <| Fin.inBlock <| Fin.then <| DC.region ?_
  refine Zp ?_
  refine Zm ?_
  refine Seq.nil ?_
  refine Fin.again ⟨i + 1, v30⟩ (by dsimp only; omega) (by dsimp only; omega) ⟨rfl, rfl, rfl, rfl, rfl, rfl, trivial⟩ (.cons' 0 rfl (by dsimp only; rw [List.take_add_one, he, Cp, hmin, hmax]; rfl) (.cons 0 rfl .nil))
 refine DC.exit <| Ad <| Ad <| Ag <| Fin.then <| DC.seq ?_
 have hie : i = es.length := by simp at c3; omega
 subst hie
 rw [List.take_length]
 refine DC.region ?_
 refine Zm ?_
 refine Seq.gen rfl rfl (AQ Ql rfl rfl rfl (Lc := [slc v 43 2 (prs es)]) (F := [blk g4 24 #[.int .i64 0, .slice none 0 0]]) (.refl _) (fun k hk => hk) (fun w' hw => Kd (hw.sub (L' := [slc v 43 2 (prs es)]) ((Rh _).cons_cons _)).self hup hl)) ?_
 rintro v33 _ ⟨_, rfl, rfl⟩
 simp only [zs]
 refine Zx <| DC.seq ?_
 refine DC.shape (t := 43) (m := 2) (vs := prs es) 0 rfl ?_
 rintro ⟨Av, lv, cv, rfl⟩
 refine DC.region ?_
 iterate 2 refine Zm ?_
 refine Zo (As (cs := #[_, _]) rfl rfl E1 rfl rfl) ?_
 refine Zy (Ah (cs' := #[_, _]) rfl rfl rfl Bd rfl (Ra rfl) rfl) ?_
 refine Zx <| DC.ret ?_
 refine BT (cs := #[_, _]) (.inl rfl) rfl rfl Bs Bd ?_
 exact ⟨[slc (.slice Av lv cv) 43 2 (prs es)], fun w hw => hw.pick (.cons 0 rfl .nil), _, _, _, rfl, rfl⟩
open Classical in
theorem Nr {f : Nat → Bool} : ∀ {es : List Pr} {k : Nat} {e : Pr}, e ∈ kp f k es ↔ ∃ i, es[i]? = some e ∧ f (k + i) = true
 | [], k, e => by simp [kp]
 | x :: r, k, e => by
  have ih := Nr (f := f) (es := r) (k := k + 1) (e := e)
  unfold kp
  constructor
  ·intro h
   split at h
   ·rename_i hf
    rcases List.mem_cons.1 h with rfl | h
    ·exact ⟨0, rfl, hf⟩
    obtain ⟨i, hi, hfi⟩ := ih.1 h
    exact ⟨i + 1, by simpa using hi, by rw [← hfi]; congr 1; omega⟩
   obtain ⟨i, hi, hfi⟩ := ih.1 h
   exact ⟨i + 1, by simpa using hi, by rw [← hfi]; congr 1; omega⟩
  rintro ⟨i, hi, hfi⟩
  match i with
  | 0 =>
   simp at hi; subst hi
   rw [Nat.add_zero] at hfi
   rw [if_pos hfi]; simp
  | i + 1 =>
   have := ih.2 ⟨i, by simpa using hi, by rw [← hfi]; congr 1; omega⟩
   split
   ·exact Rm _ this
   exact this
theorem Kv (f : Nat → Bool) : ∀ (es : List Pr) (k : Nat), (kp f k es).Sublist es
 | [], k => by simp [kp]
 | x :: r, k => by
  have := Kv f r (k + 1)
  unfold kp
  split
  ·exact this.cons_cons x
  exact this.cons x
theorem Df {N : Int} {es : List Pr} (hV : Vld N es) : es.Pairwise Lex := by
 rw [List.pairwise_iff_getElem]
 intro i j hi hj hij
 exact Gx hV hij (Q8 hi) (Q8 hj)
open Classical in
/-- Which places stand among the first i numbers. -/
noncomputable def stF (ks : List Int) (i : Nat) : Nat → Bool := fun x => decide ((x : Int) ∈ ks.take i)
theorem MH {n : Nat} {es : List Pr} {ks : List Int} {va vk : Value} {w : World} (hg : PrV w va es) (hV : Vld n es) (hk : SlV w vk ks) (hin : ∀ k, k ∈ ks → 0 ≤ k ∧ k < es.length) :
  Calls Tryz.prog 97 #[.agg #[.int .i64 n, va], vk] w (Ret w [] fun r M => ∃ Av l c, r = .tuple #[.agg #[.int .i64 n, .slice Av l c], .int .i64 0] ∧ M = [slc (.slice Av l c) 43 2 (prs (kp (stF ks ks.length) 0 es))]) := by
 have hg0 := hg
 have hfew := hV.few
 obtain ⟨A, cap, rfl, hr, hlc, hcm, hle⟩ := hg
 obtain ⟨B, capb, rfl, hrb, hlb, hcb, hleb⟩ := hk
 refine Ao (args := [_, _]) (L := []) Tryz.func97 rfl Tryz.ntmps97 rfl (Own.start _ _) ?_
 refine Zs ?_
 refine Zw (AX rfl rfl rfl) fun g2 => ?_
 refine Zw (Ay rfl FF rfl) fun g4 => ?_
 refine Za ?_
 refine Zx <| DC.seq <| Zs ?_
 refine Zu (Aq (vs := [_, _]) rfl rfl Bs Bd rfl (Ai rfl)) ?_
 refine Seq.rel0 rfl rfl (Am JD rfl rfl rfl (fun w' hw => B1 (hg0.keep0 hw))) ?_
 rintro _ ⟨b, rfl, hb⟩
 refine Zo (Bb rfl rfl) ?_
 refine Zx ?_
 refine Zd (fun c1 => ?_) fun c1 => ?_
 ·refine Zs ?_
  refine Zo (As (cs := #[_, _]) rfl rfl E1 rfl rfl) ?_
  refine Zy (Ah (cs' := #[_, _]) rfl rfl rfl Bd rfl (Ra rfl) rfl) ?_
  refine Za ?_
  refine Zx <| DC.ret <| Aa ?_
  refine AK (cs := #[_, _]) (.inl rfl) rfl rfl rfl Bs Bd ?_
  rw [hb.2 hV] at c1
  simp at c1
 refine DC.skip <| Fin.then <| Zs ?_
 refine Zf Br ?_
 refine Zl B9 ?_
 refine Zn Ru ?_
 refine Zw (Cb (k := es.length) rfl rfl rfl Rz IF Q7 PL rfl (by omega) (by omega) (EM _)) fun g16 => ?_
 refine Zw (Ay rfl PP rfl) fun g6 => ?_
 refine Zy (AB (cs' := #[_]) rfl rfl rfl PZ rfl (Ra rfl) rfl) ?_
 refine Zx <| DC.seq <| Zs ?_
 refine Zm ?_
 refine Zn Rt ?_
 refine Zm ?_
 refine Zx <| DC.block ?_
 refine DC.loop (ι := Nat) (fun i => i ≤ ks.length)
  (fun i => [(2, .pointer (some ⟨g2, 0, none⟩)), (4, .pointer (some ⟨g4, 0, none⟩)), (6, .pointer (some ⟨g6, 0, none⟩)), (17, .slice B ks.length capb), (18, .int .i64 ks.length), (19, .int .i64 i)])
  (fun i => [blk g6 188 #[.slice (some ⟨g16, 0, none⟩) es.length es.length], blk g16 4 (bls es.length (stF ks i)).toArray, blk g4 24 #[.int .i64 0, .slice none 0 0], blk g2 24 #[.int .i64 n, .slice A es.length cap]]) (fun i => ks.length - i) 0 (Nat.zero_le _) ⟨rfl, rfl, rfl, rfl, rfl, rfl, trivial⟩
  (.cons 0 rfl (.cons' 0 rfl (by rw [show stF ks 0 = fun _ => false from funext fun x => by simp [stF]]) (.cons 0 rfl (.cons 0 rfl .nil)))) ?_
 rintro i hi
 refine Zs ?_
 refine Zc ?_
 refine Zx <| DC.seq ?_
 refine Zd (fun c5 => ?_) fun c5 => ?_
 ·have hlt : i < ks.length := by simpa using c5
  obtain ⟨k, hk⟩ : ∃ k, ks[i]? = some k := ⟨_, Q8 hlt⟩
  obtain ⟨adb, rfl, hck⟩ := hrb.int hk
  obtain ⟨hk0, hk1⟩ := hin k (Rc hk)
  refine DC.skip <| Fin.then <| DC.seq <| DC.block <| Zs ?_
  refine Zo (Aw (ad' := adb.add i) rfl rfl rfl Rt AN (by omega) (by omega) rfl) ?_
  refine Zu (Ak rfl rfl AJ (AY hck)) ?_
  refine Za ?_
  refine Zx <| DC.seq <| Zs ?_
  refine Zm ?_
  refine Zc ?_
  refine Zm ?_
  refine Seq.split 25 rfl (fun k7_2 => ?_) (fun k7_2 => ?_)
  ·refine Zk ?_
   iterate 3 refine Zk ?_
   refine Zt ?_
   refine Zx ?_
   refine AG rfl ?_
   refine Zs ?_
   refine Zo (As (cs := #[_, _]) rfl rfl E1 rfl rfl) ?_
   refine Zy (Ah (cs' := #[_, _]) rfl rfl rfl Bd rfl (Ra rfl) rfl) ?_
   refine Za ?_
   refine Zx <| DC.ret <| Aa <| Ae <| Aa <| Aa <| Ae <| Aa ?_
   refine AK (cs := #[_, _]) (.inl rfl) rfl rfl rfl Bs Bd ?_
   first
   | (simp at k7_2; omega)
   | (simp at c7; omega)
  refine Zm ?_
  refine Zl N6 ?_
  refine Zn Rz ?_
  refine Zo (Ck rfl rfl rfl) ?_
  refine Zg ?_
  refine Zx ?_
  refine Zd (fun c7 => ?_) fun c7 => ?_
  ·refine Zs ?_
   refine Zo (As (cs := #[_, _]) rfl rfl E1 rfl rfl) ?_
   refine Zy (Ah (cs' := #[_, _]) rfl rfl rfl Bd rfl (Ra rfl) rfl) ?_
   refine Za ?_
   refine Zx <| DC.ret <| Aa <| Ae <| Aa <| Aa <| Ae <| Aa ?_
   refine AK (cs := #[_, _]) (.inl rfl) rfl rfl rfl Bs Bd ?_
   first
   | (simp at k7_2; omega)
   | (simp at c7; omega)
  refine DC.skip <| Fin.then <| DC.region ?_
  refine Zl N6 ?_
  refine Zm ?_
  refine Zi Rz IF ?_
  refine Zy (AB (cs' := (bls es.length (stF ks (i + 1))).toArray) rfl rfl rfl IF rfl (by simp; omega) (by
   rw [FX]
   congr 1
   unfold bls
   apply List.map_congr_left
   intro x hx
   have hx := Rn.1 hx
   congr 1
   unfold updB stF
   rw [List.take_add_one, hk]
   by_cases h : x = k.toNat
   ·rw [if_pos h]
    exact (decide_eq_true (by rw [List.mem_append]; right; simp; omega)).symm
   rw [if_neg h]
   have : ¬ (x : Int) = k := by omega
   simp [this])) ?_
  refine Seq.nil <| Fin.inBlock <| Fin.then <| DC.region ?_
  refine Zp ?_
  refine Zm ?_
  refine Seq.nil ?_
  refine Fin.again (i + 1) (by omega) (by omega) ⟨rfl, rfl, rfl, rfl, rfl, rfl, trivial⟩ (Pick.all _)
 refine DC.exit <| Ad <| Ad <| Ag <| Fin.then <| DC.seq ?_
 have hie : i = ks.length := by simp at c5; omega
 subst hie
 have hkl := Kw (stF ks ks.length) es 0
 have hsub := Kv (stF ks ks.length) es 0
 refine AC (cl := [.q, .v, .v, .q, .r, .r, .g, .q]) (A := [0, 1, 0, 0, 12, 31, 63, 127]) (order := [0, 1, 2, 3, 4, 5, 6, 7]) [] mixed (by kernel_rfl) (fun w hw => hw.pick .nil) ?_
 refine Yf Cs ?_
 refine Yl AJ ?_
 refine Ar rfl rfl rfl rfl (Aq (vs := [_, _]) rfl rfl Bs Bd rfl (Ai rfl)) ?_
 refine Yo rfl (E9 rfl rfl rfl) ?_
 refine BK rfl rfl rfl rfl (Am QP rfl rfl rfl (fun w' hw => Kx (hg0.keep0 hw) (hw.holds _ (Ri ..)) (hw.holds _ (Rm _ (Ri ..))) (by omega))) ?_
 rintro v40 _ rfl
 refine Ee (V := (slc v40 43 2 (prs (kp (stF ks ks.length) 0 es)) :: [blk g6 188 #[.slice (some ⟨g16, 0, none⟩) es.length es.length], blk g16 4 (bls es.length (stF ks ks.length)).toArray, blk g4 24 #[.int .i64 0, .slice none 0 0], blk g2 24 #[.int .i64 n, .slice A es.length cap]])) rfl rfl rfl rfl (by kernel_rfl) (Am QQ rfl rfl rfl (fun w' hw => Kt (BZ hw 0 rfl (by omega)) ((Df hV).sublist hsub) (fun e he => by
  obtain ⟨j, hj⟩ := Rf.1 (hsub.subset he)
  exact (hV.ok j e hj).lt) (by omega))) ?_
 rintro _ _ ⟨Av, l, c, rfl, rfl⟩
 refine Flow.sto (V := (slc (.slice Av l c) 43 2 (prs (kp (stF ks ks.length) 0 es)) :: slc v40 43 2 (prs (kp (stF ks ks.length) 0 es)) :: [blk g6 188 #[.slice (some ⟨g16, 0, none⟩) es.length es.length], blk g16 4 (bls es.length (stF ks ks.length)).toArray, blk g4 24 #[.int .i64 0, .slice none 0 0], blk g2 24 #[.int .i64 n, .slice A es.length cap]])) rfl rfl rfl rfl rfl (Ah (cs' := #[_, _]) rfl rfl rfl Bd rfl (Ra rfl) rfl) (fun w hw => hw.pick (.nil)) ?_
 refine Yo rfl (AF rfl rfl) ?_
 refine Flow.end rfl ?_
 simp only [zq, zr]
 refine Fin.then <| DC.ret ?_
 refine AK (cs := #[_, _]) (.inl rfl) rfl rfl rfl Bs Bd ?_
 exact ⟨[slc (.slice Av l c) 43 2 (prs (kp (stF ks ks.length) 0 es))], fun w hw => hw.pick (.cons 0 rfl .nil), Av, l, c, rfl, rfl⟩
theorem LB : ∀ {a b : List Pr}, a.Pairwise Lex → b.Pairwise Lex → (∀ x, x ∈ a ↔ x ∈ b) → a = b
 | [], [], _, _, _ => rfl
 | [], y :: r, _, _, h => by have := (h y).2 (by simp); cases this
 | x :: r, [], _, _, h => by have := (h x).1 (by simp); cases this
 | x :: r, y :: s, ha, hb, h => by
  have irr : ∀ z : Pr, ¬ Lex z z := fun z hz => by unfold Lex at hz; omega
  have tr : ∀ {u v w : Pr}, Lex u v → Lex v w → Lex u w := fun h1 h2 => by unfold Lex at *; omega
  rw [List.pairwise_cons] at ha hb
  have hxy : x = y := by
   rcases List.mem_cons.1 ((h x).1 (by simp)) with h1 | h1
   ·exact h1
   rcases List.mem_cons.1 ((h y).2 (by simp)) with h2 | h2
   ·exact h2.symm
   exact absurd (tr (hb.1 x h1) (ha.1 y h2)) (irr y)
  subst hxy
  congr 1
  refine LB ha.2 hb.2 fun z => ?_
  constructor
  ·intro hz
   rcases List.mem_cons.1 ((h z).1 (by simp [hz])) with h1 | h1
   ·subst h1; exact absurd (ha.1 z hz) (irr z)
   exact h1
  intro hz
  rcases List.mem_cons.1 ((h z).2 (by simp [hz])) with h1 | h1
  ·subst h1; exact absurd (hb.1 z hz) (irr z)
  exact h1
theorem K8 {n : Int} {es cs : List Pr} (hV : Vld n es) (hc : EdgesOk cs) (hin : ∀ c, c ∈ cs → c ∈ es) : Vld n cs :=
 ⟨hV.lo, hV.hi, hc.few, fun i e he => by
  obtain ⟨j, hj⟩ := Rf.1 (hin e (Rc he))
  exact hV.ok j e hj, hc.up⟩
theorem Ph {n : Int} {es cs : List Pr} {ns : List Int} (hV : Vld n es) (hc : EdgesOk cs) (hin : ∀ c, c ∈ cs → c ∈ es) (hn : NumR es cs ns) : kp (stF ns ns.length) 0 es = cs := by
 refine LB ((Df hV).sublist (Kv _ _ _)) (Df (K8 hV hc hin)) fun e => ?_
 rw [Nr]
 unfold stF
 rw [List.take_length]
 constructor
 ·rintro ⟨i, hi, hfi⟩
  have hm : (i : Int) ∈ ns := by simpa using hfi
  obtain ⟨j, hj⟩ := Rf.1 hm
  obtain ⟨c, hcj⟩ : ∃ c, cs[j]? = some c := ⟨_, Q8 (by rw [← hn.1]; exact (Q9.1 hj).1)⟩
  rcases hn.2 j c _ hcj hj with ⟨h1, _⟩ | ⟨i', h1, h2⟩
  ·omega
  have : i' = i := by omega
  subst this
  rw [hi] at h2; cases h2
  exact Rc hcj
 intro he
 obtain ⟨j, hj⟩ := Rf.1 he
 obtain ⟨m, hm⟩ : ∃ m, ns[j]? = some m := ⟨_, Q8 (by rw [hn.1]; exact (Q9.1 hj).1)⟩
 rcases hn.2 j e m hj hm with ⟨_, h1⟩ | ⟨i, h1, h2⟩
 ·exact absurd (hin e he) h1
 subst h1
 exact ⟨i, h2, by simpa using Rc hm⟩
theorem HZ {pl : Bool} {n : Nat} {es cs : List Pr} {va v u : Value} {w : World} (hg : PrV w va es) (hu : PrV w u cs) (hV : Vld n es) (hc : EdgesOk cs) (hin : ∀ c, c ∈ cs → c ∈ es) :
  Calls Tryz.prog 59 #[.agg #[.int .i64 n, va], .agg #[.bool pl, v, u]] w (Ret w [] fun r M => M = [] ∧ ∃ b, r = .bool b ∧ (b = true ↔ KuraOk n cs)) := by
 have hVc := K8 hV hc hin
 have hfew := hVc.few
 have hfe := hV.few
 refine Ao (args := [_, _]) (L := []) Tryz.func59 rfl Tryz.ntmps59 rfl (Own.start _ _) ?_
 refine Zs ?_
 refine Zw (AX rfl rfl rfl) fun g2 => ?_
 refine Zw (AX rfl rfl rfl) fun g3 => ?_
 refine Za ?_
 refine Zx <| DC.seq ?_
 refine AC (cl := [.v, .v, .v, .r, .r, .q, .q, .q, .n, .g, .q]) (A := [0, 0, 0, 6, 15, 31, 63, 63, 0, 383, 1023]) (order := [0, 1, 2, 3, 4, 5, 6, 7, 8, 9, 10]) [] mixed (by kernel_rfl) (fun w hw => hw.pick .nil) ?_
 refine Ar rfl rfl rfl rfl (Aq (vs := [_, _]) rfl rfl Bs Bd rfl (Ai rfl)) ?_
 refine Ar rfl rfl rfl rfl (Aq (vs := [_, _]) rfl rfl Bs Bd rfl (Ai rfl)) ?_
 refine Ar rfl rfl rfl rfl (Aq (vs := [_, _, _]) rfl rfl B7 BA rfl (Ai rfl)) ?_
 refine BK rfl rfl rfl rfl (Am Qi rfl rfl rfl (fun w' hw => DR (hg.keep0 hw) (hu.keep0 hw))) ?_
 rintro _ _ ⟨gn, ns, rfl, hn, rfl⟩
 refine Ee (V := (blk gn 3 (ints ns).toArray :: [blk g3 27 #[.bool pl, v, u], blk g2 24 #[.int .i64 n, va]])) rfl rfl rfl rfl (by kernel_rfl) (Am en97 rfl rfl rfl (fun w' hw => MH (hg.keep0 hw) hV (B2 hw (by simp) hn.1 (by omega)) (fun k hk => by
  obtain ⟨j, hj⟩ := Rf.1 hk
  obtain ⟨c, hcj⟩ : ∃ c, cs[j]? = some c := ⟨_, Q8 (by rw [← hn.1]; exact (Q9.1 hj).1)⟩
  rcases hn.2 j c _ hcj hj with ⟨_, h1⟩ | ⟨i, h1, h2⟩
  ·exact absurd (hin c (Rc hcj)) h1
  have := (Q9.1 h2).1; omega))) ?_
 rintro _ _ ⟨Av, l, c, rfl, rfl⟩
 rw [Ph hV hc hin hn]
 refine Ym ?_
 refine Yo rfl (Fa rfl rfl rfl) ?_
 refine Yo rfl (Fa rfl rfl rfl) ?_
 refine Be rfl rfl rfl rfl (Ay rfl FF rfl) fun g5 => ?_
 refine Flow.sto (V := (blk g5 24 #[.int .i64 0, .slice none 0 0] :: slc (.slice Av l c) 43 2 (prs cs) :: blk gn 3 (ints ns).toArray :: [blk g3 27 #[.bool pl, v, u], blk g2 24 #[.int .i64 n, va]])) rfl rfl rfl rfl rfl (Ah (cs' := #[_, _]) rfl rfl rfl Bd rfl (Ra rfl) rfl) (fun w hw => hw.pick (.nil)) ?_
 refine Yo rfl (AF rfl rfl) ?_
 refine Flow.end rfl ?_
 simp only [zq, zr]
 refine Fin.then <| DC.seq <| Zs ?_
 refine Zm ?_
 refine Zo (BQ rfl rfl rfl) ?_
 refine Zx ?_
 refine Zd (fun c2 => ?_) fun c2 => ?_
 ·refine Zs ?_
  refine Za ?_
  refine Zx <| DC.ret <| Aa ?_
  refine Zh ?_
  simp at c2
 refine DC.skip <| Fin.then <| Zs ?_
 refine Zu (Aq (vs := [_, _]) rfl rfl Bs Bd rfl (Ai rfl)) ?_
 refine Seq.rel0 rfl rfl (Am en98 rfl rfl rfl (fun w' hw => FG (BZ hw 1 rfl (by omega)) hVc)) ?_
 rintro _ ⟨k0, A0, l0, c0, A1, l1, c1, b, rfl, hb⟩
 refine Zm ?_
 iterate 3 refine Ze ?_
 refine Zw (Ay rfl LU rfl) fun g7 => ?_
 refine Zy (Ah (cs' := #[_, _, _]) rfl rfl rfl Cm rfl (Ra rfl) rfl) ?_
 iterate 2 refine Za ?_
 refine Zx <| Zs ?_
 refine Zm ?_
 refine Za ?_
 refine Zx <| DC.ret ?_
 refine Fin.weak (E' := [(4, _)]) ⟨rfl, trivial⟩ .nil ?_
 refine Zh ?_
 exact ⟨rfl, b, rfl, hb⟩
open Classical
/-! ### a rotation is flat or not, whatever way it was found -/
theorem Hi {N : Int} {es : List Pr} {ls rs rs' : List (List Int)} (hV : Vld N es) (h : RotR es ls rs) (h' : RotR es ls rs') : rs = rs' := by
 apply List.ext_getElem?
 intro v
 by_cases hv : v < ls.length
 ·obtain ⟨l, hl⟩ : ∃ l, ls[v]? = some l := ⟨_, Q8 hv⟩
  obtain ⟨r, hr⟩ : ∃ r, rs[v]? = some r := ⟨_, Q8 (by rw [h.1]; exact hv)⟩
  obtain ⟨r', hr'⟩ : ∃ r, rs'[v]? = some r := ⟨_, Q8 (by rw [h'.1]; exact hv)⟩
  rw [hr, hr']
  congr 1
  obtain ⟨q1, q2⟩ := h.2 v l r hl hr
  obtain ⟨q3, q4⟩ := h'.2 v l r' hl hr'
  apply List.ext_getElem?
  intro j
  by_cases hj : j < l.length
  ·obtain ⟨u, hu⟩ : ∃ u, l[j]? = some u := ⟨_, Q8 hj⟩
   obtain ⟨x, hx⟩ : ∃ x, r[j]? = some x := ⟨_, Q8 (by omega)⟩
   obtain ⟨y, hy⟩ : ∃ y, r'[j]? = some y := ⟨_, Q8 (by omega)⟩
   rw [hx, hy, (q2 j u x hu hx).uniq hV (q4 j u y hu hy)]
  rw [Rq (by omega), Rq (by omega)]
 rw [Rq (by rw [h.1]; omega), Rq (by rw [h'.1]; omega)]
theorem OC {n : Nat} {es : List Pr} {rs : List (List Int)} {f g : Nat → Int} (hok : RotL n es rs) (hf : NxOk rs rs.length f) (hg : NxOk rs rs.length g) {h : Nat} (hh : h < es.length * 2) : f h = g h := by
 obtain ⟨v, l, i, hl, hi, _⟩ := El hok hh
 have h1 := (EG hok hf hl hi).1
 have h2 := (EG hok hg hl hi).1
 rw [h1] at h2
 exact Option.some.inj h2
theorem KG {n : Nat} {es : List Pr} {rs : List (List Int)} {f g : Nat → Int} (hok : RotL n es rs) (hf : NxOk rs rs.length f) (hg : NxOk rs rs.length g) : facesN es f = facesN es g := by
 have hp := (H7 hok hf).1
 have htw : ∀ h, h < es.length * 2 → twn h < es.length * 2 := fun h hh => by unfold twn; split <;> omega
 have hit : ∀ h, h < es.length * 2 → ∀ k, itr (phi f) k h = itr (phi g) k h := by
  intro h hh k
  induction k with
  | zero => rfl
  | succ k ih =>
   have h1 := CR hp hh k
   show phi f (itr (phi f) k h) = phi g (itr (phi g) k h)
   rw [← ih]
   show (f (twn (itr (phi f) k h))).toNat = (g (twn (itr (phi f) k h))).toNat
   rw [OC hok hf hg (htw _ h1)]
 unfold facesN headsOf
 congr 2
 apply List.filter_congr
 intro x hx
 have hx := Rn.1 hx
 unfold Lead
 simp only [hit x hx]
theorem GF {n : Nat} {es : List Pr} {rs : List (List Int)} {f g : Nat → Int} (hok : RotL n es rs) (hf : NxOk rs rs.length f) (hg : NxOk rs rs.length g) : genus2 n es f = genus2 n es g := by
 unfold genus2; rw [KG hok hf hg]
/-- The lists say a flat rotation. -/
def FlatP (n : Nat) (es : List Pr) (ls : List (List Int)) : Prop := ∃ rs fn, RotR es ls rs ∧ NxOk rs rs.length fn ∧ genus2 n es fn = 0
theorem Mu {n : Nat} {es : List Pr} {ls : List (List Int)} {b : Prop} (hok : RotOk n es ls) (h : FlatR n es ls b) : b ↔ FlatP n es ls := by
 obtain ⟨rs, fn, h1, h2, h3⟩ := h
 rw [h3]
 constructor
 ·intro hb; exact ⟨rs, fn, h1, h2, hb⟩
 rintro ⟨rs', fn', k1, k2, k3⟩
 have := Hi hok.1 h1 k1
 subst this
 rw [GF (HV hok h1) h2 k2]; exact k3
/-- What check.Graph answers. -/
noncomputable def chkF (N : Int) (es : List Pr) (pl : Bool) (ls : List (List Int)) (cs : List Pr) : Int :=
 if ¬ Vld N es then 1
 else if ¬ TextOk pl ls cs then 181
 else if pl then (if ¬ RotOk N es ls then 182 else if ¬ FlatP N.toNat es ls then 183 else 0)
 else (if ¬ (∀ c, c ∈ cs → c ∈ es) then 184 else if ¬ KuraOk N.toNat cs then 185 else 0)
theorem HT {N : Int} {es : List Pr} {va c : Value} {w : World} {p v u : Value} (hg : PrV w va es) (hc : c = .agg #[p, v, u]) (h1 : p.oneCell' = true) (h2 : v.oneCell' = true) (h3 : u.oneCell' = true) :
  Calls Tryz.prog 54 #[.agg #[.int .i64 N, va], c] w (Ret w [] fun r M => M = [] ∧ ∃ b, r = .bool b ∧ (b = true ↔ Vld N es)) := by
 subst hc
 refine Ao (args := [_, _]) (L := []) Tryz.func54 rfl Tryz.ntmps54 rfl (Own.start _ _) ?_
 refine Zs ?_
 refine Zw (AX rfl rfl rfl) fun g2 => ?_
 refine Zw (AX rfl rfl (N1 h1 h2 h3)) fun g3 => ?_
 refine Za ?_
 refine Zx <| Zs ?_
 refine Zu (Aq (vs := [_, _]) rfl rfl Bs Bd rfl (Ai rfl)) ?_
 refine Seq.rel0 rfl rfl (Am JD rfl rfl rfl (fun w' hw => B1 (hg.keep0 hw))) ?_
 rintro _ ⟨b, rfl, hb⟩
 refine Za ?_
 refine Zx <| DC.ret ?_
 refine Fin.weak (E' := [(4, _)]) ⟨rfl, trivial⟩ .nil ?_
 refine Zh ?_
 exact ⟨rfl, b, rfl, hb⟩
def fnv (f : Nat) : Value := .func (.func f) #[] #[]
def stepsA : Array Value := #[.int .i64 0, fnv 54, .int .i64 1, .int .i64 0, fnv 55, .int .i64 181, .int .i64 1, fnv 56, .int .i64 182, .int .i64 1, fnv 57, .int .i64 183, .int .i64 (-1), fnv 58, .int .i64 184, .int .i64 (-1), fnv 59, .int .i64 185]
theorem IS (w : World) : Calls Tryz.prog 30 #[] w (Ret w [] fun r M => ∃ g, r = .slice (some ⟨g, 0, none⟩) 6 6 ∧ M = [blk g 69 stepsA]) := by
 refine Ao (args := []) (L := []) Tryz.func30 rfl Tryz.ntmps30 rfl (Own.start _ _) ?_
 refine Zs ?_
 refine Za ?_
 refine Zx <| Zs ?_
 refine Zo (As (cs := #[_, _, _]) rfl rfl MF rfl rfl) ?_
 refine Zo (As (cs := #[_, _, _]) rfl rfl MF rfl rfl) ?_
 refine Zo (As (cs := #[_, _, _]) rfl rfl MF rfl rfl) ?_
 refine Zo (As (cs := #[_, _, _]) rfl rfl MF rfl rfl) ?_
 refine Zo (As (cs := #[_, _, _]) rfl rfl MF rfl rfl) ?_
 refine Zo (As (cs := #[_, _, _]) rfl rfl MF rfl rfl) ?_
 refine Zw (AM (cs := #[_, _, _, _, _, _, _, _, _, _, _, _, _, _, _, _, _, _]) rfl rfl Tryz.underlying66 Om PK rfl (by decide) (by decide) rfl rfl) fun g7 => ?_
 refine Za ?_
 refine Zx <| DC.ret ?_
 refine Fin.weak (E' := [(0, _)]) ⟨rfl, trivial⟩ (Pick.all _) ?_
 refine Zh ?_
 exact ⟨g7, rfl, rfl⟩
end Go.Fl

namespace Go.Fl
open Go Go.Proofs
open Classical
def ofS : Nat → Int
 | 0 => 0
 | 1 => 0
 | 2 => 1
 | 3 => 1
 | _ => -1
def fnS : Nat → Nat
 | 0 => 54
 | 1 => 55
 | 2 => 56
 | 3 => 57
 | 4 => 58
 | _ => 59
def badS : Nat → Int
 | 0 => 1
 | 1 => 181
 | 2 => 182
 | 3 => 183
 | 4 => 184
 | _ => 185
theorem LX {i : Nat} (hi : i < 6) : (stepsA.toList.drop (i * 3)).take [Value.int .i64 (ofS i), fnv (fnS i), .int .i64 (badS i)].length = [.int .i64 (ofS i), fnv (fnS i), .int .i64 (badS i)] := by
 rcases (show i = 0 ∨ i = 1 ∨ i = 2 ∨ i = 3 ∨ i = 4 ∨ i = 5 by omega) with rfl | rfl | rfl | rfl | rfl | rfl <;> rfl
theorem LH {i : Nat} (hi : i < 6) : Ent Tryz.prog (fnS i) := by
 rcases (show i = 0 ∨ i = 1 ∨ i = 2 ∨ i = 3 ∨ i = 4 ∨ i = 5 by omega) with rfl | rfl | rfl | rfl | rfl | rfl
 ·exact en54
 ·exact en55
 ·exact en56
 ·exact en57
 ·exact en58
 exact en59
/-- What each step asks. -/
def PS (N : Int) (es : List Pr) (pl : Bool) (ls : List (List Int)) (cs : List Pr) : Nat → Prop
 | 0 => Vld N es
 | 1 => TextOk pl ls cs
 | 2 => RotOk N es ls
 | 3 => FlatP N.toNat es ls
 | 4 => ∀ c, c ∈ cs → c ∈ es
 | _ => KuraOk N.toNat cs
def kindS (pl : Bool) : Int := if pl then 1 else -1
def Appl (pl : Bool) (i : Nat) : Prop := ofS i = 0 ∨ ofS i = kindS pl
theorem Gb {N : Int} {pl : Bool} {es cs : List Pr} {ls : List (List Int)} {va v u : Value} {w : World} (hg : PrV w va es) (hv : LsV w v ls) (hu : PrV w u cs) (hp : Pow w) (hs : ∀ l, l ∈ ls → l.length ≤ 33554432)
  {i : Nat} (hi : i < 6) (ha : Appl pl i) (hall : ∀ j, j < i → Appl pl j → PS N es pl ls cs j) :
  Calls Tryz.prog (fnS i) #[.agg #[.int .i64 N, va], .agg #[.bool pl, v, u]] w (Ret w [] fun r M => M = [] ∧ ∃ b, r = .bool b ∧ (b = true ↔ PS N es pl ls cs i)) := by
 have hv1 : v.oneCell' = true := by obtain ⟨A, c, rfl, _⟩ := hv; rfl
 have hu1 : u.oneCell' = true := by obtain ⟨A, c, rfl, _⟩ := hu; rfl
 have h0 : 0 < i → Vld N es := fun h => hall 0 h (.inl rfl)
 have hnat : 0 < i → ((N.toNat : Nat) : Int) = N := fun h => by have := (h0 h).lo; omega
 have h1 : 1 < i → TextOk pl ls cs := fun h => hall 1 h (.inl rfl)
 have hedges : 1 < i → pl = false → EdgesOk cs := fun h hpl => by
  have := (h1 h).1
  rw [hpl] at this
  exact this.2
 rcases (show i = 0 ∨ i = 1 ∨ i = 2 ∨ i = 3 ∨ i = 4 ∨ i = 5 by omega) with rfl | rfl | rfl | rfl | rfl | rfl
 ·exact HT hg rfl rfl hv1 hu1
 ·exact I9 hv hu hp hs
 ·exact IL hg hv
 ·have hpl : pl = true := by
   rcases ha with h | h
   ·simp [ofS] at h
   cases pl
   ·simp [ofS, kindS] at h
   rfl
  have hr : RotOk N es ls := hall 2 (by omega) (.inr (by rw [hpl]; rfl))
  rw [← hnat (by omega)] at hr ⊢
  refine (JR hg hv hr).mono ?_
  rintro e w' ⟨r, L, rfl, ⟨rfl, b, rfl, hb⟩, hO⟩
  refine ⟨_, _, rfl, ⟨rfl, b, rfl, ?_⟩, hO⟩
  exact Mu hr hb
 ·exact HM hg hu
 have hpl : pl = false := by
  rcases ha with h | h
  ·simp [ofS] at h
  cases pl
  ·rfl
  simp [ofS, kindS] at h
 have hin : ∀ c, c ∈ cs → c ∈ es := hall 4 (by omega) (.inr (by rw [hpl]; rfl))
 have hV := h0 (by omega)
 rw [← hnat (by omega)] at hV ⊢
 exact HZ hg hu hV (hedges (by omega) hpl) hin
theorem LO {N : Int} {pl : Bool} {es cs : List Pr} {ls : List (List Int)} {i : Nat} (hi : i < 6) (ha : Appl pl i) (hall : ∀ j, j < i → Appl pl j → PS N es pl ls cs j) (hn : ¬ PS N es pl ls cs i) : chkF N es pl ls cs = badS i := by
 have h0 : 0 < i → Vld N es := fun h => hall 0 h (.inl rfl)
 have h1 : 1 < i → TextOk pl ls cs := fun h => hall 1 h (.inl rfl)
 unfold chkF
 have hk1 : ∀ {k : Int}, (k = 0 ∨ k = kindS true) → k = 0 ∨ k = 1 := fun h => h
 have hk2 : ∀ {k : Int}, (k = 0 ∨ k = kindS false) → k = 0 ∨ k = -1 := fun h => h
 rcases (show i = 0 ∨ i = 1 ∨ i = 2 ∨ i = 3 ∨ i = 4 ∨ i = 5 by omega) with rfl | rfl | rfl | rfl | rfl | rfl
 ·have hn' : ¬ Vld N es := hn
  rw [if_pos hn']; rfl
 ·have a0 := h0 (by omega)
  have hn' : ¬ TextOk pl ls cs := hn
  rw [if_neg (not_not_intro a0), if_pos hn']; rfl
 ·have a0 := h0 (by omega)
  have a1 := h1 (by omega)
  have hn' : ¬ RotOk N es ls := hn
  rw [if_neg (not_not_intro a0), if_neg (not_not_intro a1)]
  cases pl
  ·have := hk2 ha; simp [ofS] at this
  rw [if_pos rfl, if_pos hn']; rfl
 ·have a0 := h0 (by omega)
  have a1 := h1 (by omega)
  have hn' : ¬ FlatP N.toNat es ls := hn
  rw [if_neg (not_not_intro a0), if_neg (not_not_intro a1)]
  cases pl
  ·have := hk2 ha; simp [ofS] at this
  have a2 : RotOk N es ls := hall 2 (by omega) (.inr rfl)
  rw [if_pos rfl, if_neg (not_not_intro a2), if_pos hn']; rfl
 ·have a0 := h0 (by omega)
  have a1 := h1 (by omega)
  have hn' : ¬ ∀ c, c ∈ cs → c ∈ es := hn
  rw [if_neg (not_not_intro a0), if_neg (not_not_intro a1)]
  cases pl
  ·rw [if_neg (by simp), if_pos hn']; rfl
  have := hk1 ha; simp [ofS] at this
 have a0 := h0 (by omega)
 have a1 := h1 (by omega)
 have hn' : ¬ KuraOk N.toNat cs := hn
 rw [if_neg (not_not_intro a0), if_neg (not_not_intro a1)]
 cases pl
 ·have a4 : ∀ c, c ∈ cs → c ∈ es := hall 4 (by omega) (.inr rfl)
  rw [if_neg (by simp), if_neg (not_not_intro a4), if_pos hn']; rfl
 have := hk1 ha; simp [ofS] at this
theorem PG {N : Int} {pl : Bool} {es cs : List Pr} {ls : List (List Int)} (hall : ∀ j, j < 6 → Appl pl j → PS N es pl ls cs j) : chkF N es pl ls cs = 0 := by
 unfold chkF
 have h0 : Vld N es := hall 0 (by omega) (.inl rfl)
 have h1 : TextOk pl ls cs := hall 1 (by omega) (.inl rfl)
 rw [if_neg (not_not_intro h0), if_neg (not_not_intro h1)]
 cases pl
 ·have a4 : ∀ c, c ∈ cs → c ∈ es := hall 4 (by omega) (.inr rfl)
  have a5 : KuraOk N.toNat cs := hall 5 (by omega) (.inr rfl)
  rw [if_neg (by simp), if_neg (not_not_intro a4), if_neg (not_not_intro a5)]
 have a2 : RotOk N es ls := hall 2 (by omega) (.inr rfl)
 have a3 : FlatP N.toNat es ls := hall 3 (by omega) (.inr rfl)
 rw [if_pos rfl, if_neg (not_not_intro a2), if_neg (not_not_intro a3)]
theorem Cf {N : Int} {pl : Bool} {es cs : List Pr} {ls : List (List Int)} {va v u : Value} {w : World} (hg : PrV w va es) (hv : LsV w v ls) (hu : PrV w u cs) (hp : Pow w) (hs : ∀ l, l ∈ ls → l.length ≤ 33554432) :
  Calls Tryz.prog 10 #[.agg #[.int .i64 N, va], .agg #[.bool pl, v, u]] w (Ret w [] fun r M => M = [] ∧ r = .int .i64 (chkF N es pl ls cs)) := by
 have hga : ∃ A l c, va = .slice A l c := by obtain ⟨A, c, rfl, _⟩ := hg; exact ⟨_, _, _, rfl⟩
 have hva : ∃ A l c, v = .slice A l c := by obtain ⟨A, c, rfl, _⟩ := hv; exact ⟨_, _, _, rfl⟩
 have hua : ∃ A l c, u = .slice A l c := by obtain ⟨A, c, rfl, _⟩ := hu; exact ⟨_, _, _, rfl⟩
 obtain ⟨A1, l1, c1, rfl⟩ := hga
 obtain ⟨A2, l2, c2, rfl⟩ := hva
 obtain ⟨A3, l3, c3, rfl⟩ := hua
 refine Ao (args := [_, _]) (L := []) Tryz.func10 rfl Tryz.ntmps10 rfl (Own.start _ _) ?_
 refine Zs ?_
 refine Zw (AX rfl rfl rfl) fun g2 => ?_
 refine Zw (AX rfl rfl rfl) fun g3 => ?_
 refine Za ?_
 refine Zx <| Zs ?_
 refine Za ?_
 refine Zx ?_
 refine DC.cut (ι := Unit) (fun _ => True) (fun _ => [(2, .pointer (some ⟨g2, 0, none⟩)), (3, .pointer (some ⟨g3, 0, none⟩)), (5, .int .i64 (kindS pl))]) (fun _ => [blk g3 27 #[.bool pl, .slice A2 l2 c2, .slice A3 l3 c3], blk g2 24 #[.int .i64 N, .slice A1 l1 c1]]) ?first3 ?rest3
 case first3 =>
  refine Zs ?_
  refine Zf Ex ?_
  refine Zl MO ?_
  refine Zx ?_
  refine Zd (fun c2 => ?_) fun c2 => ?_
  ·refine DC.region ?_
   refine Za ?_
   refine Seq.nil ?_
   refine AO () trivial ⟨rfl, rfl, by rw [show pl = true from c2]; rfl, trivial⟩ (Pick.all _)
  refine DC.skip ?_
  refine AO () trivial ⟨rfl, rfl, by rw [show pl = false from c2]; rfl, trivial⟩ (Pick.all _)
 rintro _ _
 refine DC.seq <| Zs ?_
 refine Seq.rel rfl rfl (Am en30 rfl rfl rfl (fun w' hw => IS w')) ?_
 rintro _ _ ⟨gs, rfl, rfl⟩
 simp only [zs]
 refine Zn Tryz.underlying66 ?_
 refine Zm ?_
 refine Zx <| DC.block ?_
 refine DC.loop (ι := Nat) (fun i => i ≤ 6 ∧ ∀ j, j < i → Appl pl j → PS N es pl ls cs j)
  (fun i => [(2, .pointer (some ⟨g2, 0, none⟩)), (3, .pointer (some ⟨g3, 0, none⟩)), (5, .int .i64 (kindS pl)), (10, .slice (some ⟨gs, 0, none⟩) 6 6), (11, .int .i64 6), (12, .int .i64 i)])
  (fun _ => [blk gs 69 stepsA, blk g3 27 #[.bool pl, .slice A2 l2 c2, .slice A3 l3 c3], blk g2 24 #[.int .i64 N, .slice A1 l1 c1]]) (fun i => 6 - i) 0 ⟨Nat.zero_le _, fun _ h => absurd h (Rs _)⟩
  ⟨rfl, rfl, rfl, rfl, rfl, rfl, trivial⟩ (Pick.all _) ?_
 rintro i ⟨hi, hall⟩
 refine Zs ?_
 refine Zc ?_
 refine Zx <| DC.seq ?_
 refine Zd (fun c5 => ?_) fun c5 => ?_
 ·have hlt : i < 6 := by simp at c5; omega
  refine DC.skip <| Fin.then <| DC.seq <| DC.block <| Zs ?_
  refine Zo (AT (ad' := ⟨gs, i * 3, none⟩) rfl rfl rfl Tryz.underlying66 Om (by omega) (by omega) (Az _ _)) ?_
  refine Zu (Aq (vs := [.int .i64 (ofS i), fnv (fnS i), .int .i64 (badS i)]) rfl rfl ag69 Om rfl (Ai (LX hlt))) ?_
  refine Zw (Ay rfl PK rfl) fun g7 => ?_
  refine Zy (Ah (cs' := #[.int .i64 (ofS i), fnv (fnS i), .int .i64 (badS i)]) rfl rfl rfl Om rfl (Ra rfl) rfl) ?_
  refine Zx <| Zs ?_
  refine Zf NI ?_
  refine Zl AJ ?_
  refine Zo (AW rfl rfl rfl) ?_
  refine Zm ?_
  refine Seq.split 19 rfl (fun k7_3 => ?_) (fun k7_3 => ?_)
  ·refine Zk ?_
   iterate 3 refine Zk ?_
   refine Zt ?_
   refine Zm ?_
   refine Zf NH ?_
   refine Zl Q4 ?_
   refine Zu (Aq (vs := [_, _]) rfl rfl Bs Bd rfl (Ai rfl)) ?_
   refine Zu (Aq (vs := [_, _, _]) rfl rfl B7 BA rfl (Ai rfl)) ?_
   have hap : Appl pl i := by first | exact .inl (by simpa using k7_3) | exact .inr (by simpa using k7_9)
   refine Seq.rel0 rfl rfl (Am (LH hlt) rfl rfl rfl (fun w' hw => Gb (hg.keep0 hw) (hv.keep0 hw) (hu.keep0 hw) (hp.keep0 hw) hs hlt hap hall)) ?_
   rintro _ ⟨b, rfl, hb⟩
   refine Zo (Bb rfl rfl) ?_
   refine Zt ?_
   refine Zx ?_
   refine Zd (fun c7 => ?_) fun c7 => ?_
   ·refine Zs ?_
    refine Zf NG ?_
    refine Zl Fq ?_
    refine Za ?_
    refine Zx <| DC.ret <| Ae <| Aa <| Aa <| Ae <| Aa ?_
    refine Fin.weak (E' := [(4, _)]) ⟨rfl, trivial⟩ .nil ?_
    refine Zh ?_
    exact ⟨rfl, by rw [LO hlt hap hall (fun h => by rw [hb.2 h] at c7; simp at c7)]⟩
   refine DC.skip <| Fin.inBlock <| Fin.then <| DC.region ?_
   refine Zp ?_
   refine Zm ?_
   refine Seq.nil ?_
   refine Fin.again (i + 1) (by omega) ⟨by omega, fun j hj hap' => ?_⟩ ⟨rfl, rfl, rfl, rfl, rfl, rfl, trivial⟩ (.cons 1 rfl (.cons 1 rfl (.cons 1 rfl .nil)))
   rcases Re.1 hj with hj | rfl
   ·exact hall j hj hap'
   exact hb.1 (by simpa using c7)
  refine Zf NI ?_
  refine Zl AJ ?_
  refine Zm ?_
  refine Zo (AW rfl rfl rfl) ?_
  refine Zg ?_
  refine Zm ?_
  refine Seq.split 25 rfl (fun k7_9 => ?_) (fun k7_9 => ?_)
  ·refine Zf NH ?_
   refine Zl Q4 ?_
   refine Zu (Aq (vs := [_, _]) rfl rfl Bs Bd rfl (Ai rfl)) ?_
   refine Zu (Aq (vs := [_, _, _]) rfl rfl B7 BA rfl (Ai rfl)) ?_
   have hap : Appl pl i := by first | exact .inl (by simpa using k7_3) | exact .inr (by simpa using k7_9)
   refine Seq.rel0 rfl rfl (Am (LH hlt) rfl rfl rfl (fun w' hw => Gb (hg.keep0 hw) (hv.keep0 hw) (hu.keep0 hw) (hp.keep0 hw) hs hlt hap hall)) ?_
   rintro _ ⟨b, rfl, hb⟩
   refine Zo (Bb rfl rfl) ?_
   refine Zt ?_
   refine Zx ?_
   refine Zd (fun c7 => ?_) fun c7 => ?_
   ·refine Zs ?_
    refine Zf NG ?_
    refine Zl Fq ?_
    refine Za ?_
    refine Zx <| DC.ret <| Ae <| Aa <| Aa <| Ae <| Aa ?_
    refine Fin.weak (E' := [(4, _)]) ⟨rfl, trivial⟩ .nil ?_
    refine Zh ?_
    exact ⟨rfl, by rw [LO hlt hap hall (fun h => by rw [hb.2 h] at c7; simp at c7)]⟩
   refine DC.skip <| Fin.inBlock <| Fin.then <| DC.region ?_
   refine Zp ?_
   refine Zm ?_
   refine Seq.nil ?_
   refine Fin.again (i + 1) (by omega) ⟨by omega, fun j hj hap' => ?_⟩ ⟨rfl, rfl, rfl, rfl, rfl, rfl, trivial⟩ (.cons 1 rfl (.cons 1 rfl (.cons 1 rfl .nil)))
   rcases Re.1 hj with hj | rfl
   ·exact hall j hj hap'
   exact hb.1 (by simpa using c7)
  iterate 6 refine Zk ?_
  refine Zg ?_
  refine Zx ?_
  refine Ba rfl ?_
  refine DC.skip <| Fin.inBlock <| Fin.then <| DC.region ?_
  refine Zp ?_
  refine Zm ?_
  refine Seq.nil ?_
  refine Fin.again (i + 1) (by omega) ⟨by omega, fun j hj hap' => ?_⟩ ⟨rfl, rfl, rfl, rfl, rfl, rfl, trivial⟩ (.cons 1 rfl (.cons 1 rfl (.cons 1 rfl .nil)))
  rcases Re.1 hj with hj | rfl
  ·exact hall j hj hap'
  rcases hap' with h | h
  ·simp at k7_3; exact absurd h k7_3
  simp at k7_9; exact absurd h k7_9
 refine DC.exit <| Ad <| Ad <| Ag <| Fin.then <| Zs ?_
 refine Za ?_
 refine Zx <| DC.ret ?_
 refine Fin.weak (E' := [(4, _)]) ⟨rfl, trivial⟩ .nil ?_
 refine Zh ?_
 have hie : i = 6 := by simp at c5; omega
 subst hie
 exact ⟨rfl, by rw [PG hall]⟩
end Go.Fl

namespace Go.Fl
open Go Go.Proofs
open Classical
/-- What simple.Read answers of bytes. -/
def ReadR (bs : List UInt8) (N : Int) (es : List Pr) : Prop := ∃ n ps, rawF bs = .ok n ps ∧ ((N = n ∧ MakR n ps es) ∨ (N = 0 ∧ es = [] ∧ ¬ ∃ es, MakR n ps es))
theorem ReadR.uniq {bs : List UInt8} {N N' : Int} {es es' : List Pr} (h : ReadR bs N es) (h' : ReadR bs N' es') : N = N' ∧ es = es' := by
 obtain ⟨n, ps, h1, h2⟩ := h
 obtain ⟨n', ps', h3, h4⟩ := h'
 rw [h1] at h3
 cases h3
 rcases h2 with ⟨rfl, h2⟩ | ⟨rfl, rfl, h2⟩ <;> rcases h4 with ⟨rfl, h4⟩ | ⟨rfl, rfl, h4⟩
 ·exact ⟨rfl, h2.uniq h4⟩
 ·exact absurd ⟨_, h2⟩ h4
 ·exact absurd ⟨_, h4⟩ h2
 exact ⟨rfl, rfl⟩
theorem ReadR.few {bs : List UInt8} {N : Int} {es : List Pr} (h : ReadR bs N es) : es.length ≤ 4194304 := by
 obtain ⟨n, ps, _, ⟨_, h⟩ | ⟨_, rfl, _⟩⟩ := h
 ·exact h.few
 simp
theorem KY {vb : Value} {bs : List UInt8} {w : World} (hB : ByV w vb bs) :
  Calls Tryz.prog 38 #[vb] w (Ret w [] fun r M => ∃ n A l c code at' ps, r = .tuple #[.agg #[.int .i64 n, .slice A l c], .agg #[.int .i64 code, .int .i64 at']] ∧ M = [slc (.slice A l c) 35 2 (prs ps)] ∧ ps.length ≤ 33554433 ∧ (code = 0 → rawF bs = .ok n ps) ∧ (code ≠ 0 → ∀ n ps, rawF bs ≠ .ok n ps)) := by
 refine Calls.mono (HJ hB) ?_
 rintro e w' ⟨v, L', rfl, ⟨n, ps, vp, h1, h2, rfl, rfl⟩ | ⟨c, a, h1, h2, rfl, rfl⟩, hO⟩
 ·obtain ⟨A, c, rfl, _⟩ := BZ hO 0 rfl (by omega)
  exact ⟨_, _, rfl, ⟨n, A, _, c, 0, 0, ps, rfl, rfl, h2, fun _ => h1, by simp⟩, hO⟩
 exact ⟨_, _, rfl, ⟨0, none, 0, 0, c, a, [], rfl, rfl, by simp, fun h => absurd h h2, fun _ n ps h => by rw [h1] at h; cases h⟩, AU hO⟩
theorem IT {vb : Value} {bs : List UInt8} {w : World} (hB : ByV w vb bs) :
  Calls Tryz.prog 21 #[vb] w (Ret w [] fun r M => ∃ N A l c code at' es, r = .tuple #[.agg #[.int .i64 N, .slice A l c], .agg #[.int .i64 code, .int .i64 at']] ∧ M = [slc (.slice A l c) 43 2 (prs es)] ∧ (code = 0 → ReadR bs N es) ∧ (code ≠ 0 → ∀ N es, ¬ ReadR bs N es)) := by
 refine Ao (K := []) (args := [_]) (L := []) Tryz.func21 rfl Tryz.ntmps21 rfl (Own.start _ _) ?_
 refine Zs ?_
 refine Zw (Ay rfl FF rfl) fun g2 => ?_
 refine Zw (Ay rfl HL rfl) fun g3 => ?_
 refine Zx <| Zs ?_
 refine Zm ?_
 refine Seq.rel rfl rfl (Am Qo rfl rfl rfl (fun w hw => KY (hB.keep0 hw))) ?_
 rintro _ _ ⟨n, A, l, c, code, at', ps, rfl, rfl, hpl, hok, hbad⟩
 simp only [zs]
 refine Zm ?_
 iterate 2 refine Ze ?_
 refine Zw (Ay rfl Pd rfl) fun g4 => ?_
 refine Zw (Ay rfl HL rfl) fun g5 => ?_
 refine Zy (Ah (cs' := #[_, _]) rfl rfl rfl Ej rfl (Ra rfl) rfl) ?_
 refine Zy (Ah (cs' := #[_, _]) rfl rfl rfl BH rfl (Ra rfl) rfl) ?_
 refine Zx <| DC.seq <| Zs ?_
 refine Zf GJ ?_
 refine Zl Fq ?_
 refine Zo (BQ rfl rfl rfl) ?_
 refine Zx ?_
 refine Zd (fun c2 => ?_) fun c2 => ?_
 ·refine DC.seq ?_
  refine AC (cl := [.q, .q, .g, .g]) (A := [0, 0, 1, 7]) (order := [0, 1, 2, 3]) ([blk g5 51 #[.int .i64 code, .int .i64 at']]) mixed (by kernel_rfl) (fun w hw => hw.pick (.cons 0 rfl .nil)) ?_
  refine Yo rfl (As (cs := #[_, _]) rfl rfl E1 rfl rfl) ?_
  refine Flow.old rfl rfl rfl (Aq (vs := [_, _]) rfl rfl Da BH rfl (Ai rfl)) ?_
  refine AD rfl rfl rfl rfl (Ah (cs' := #[_, _]) rfl rfl rfl Bd rfl (Ra rfl) rfl) (fun w hw => hw.pick (.cons 0 rfl .nil)) ?_
  refine AD rfl rfl rfl rfl (Ah (cs' := #[_, _]) rfl rfl rfl BH rfl (Ra rfl) rfl) (fun w hw => hw.pick (.cons 0 rfl .nil)) ?_
  refine Flow.end rfl ?_
  simp only [zq, zr]
  refine Fin.then <| DC.ret <| Aa ?_
  refine B5 (cs := #[_, _]) (cs' := #[_, _]) (.inl rfl) rfl rfl rfl Bs Bd Da BH ?_
  exact ⟨[slc (.slice none 0 0) 43 2 (prs [])], fun w hw => AU (hw.sub (Rh _)), 0, none, 0, 0, code, at', [], rfl, rfl, fun h => by simp at c2; omega, fun h N es hR => by
   obtain ⟨n', ps', h1, _⟩ := hR
   exact hbad h n' ps' h1⟩
 refine DC.skip <| Fin.then <| Zs ?_
 refine Zf KF ?_
 refine Zl AJ ?_
 refine Zf GH ?_
 refine Zl OW ?_
 refine Seq.rel rfl rfl (Am en39 rfl rfl rfl (fun w hw => IW (BZ hw 2 rfl (by omega)) hpl)) ?_
 rintro _ _ ⟨N', A2, l2, c2', e2, es, rfl, rfl, hmk, hno⟩
 simp only [zs]
 refine Zm ?_
 iterate 2 refine Ze ?_
 refine Zw (Ay rfl FF rfl) fun g6 => ?_
 refine Zy (Ah (cs' := #[_, _]) rfl rfl rfl Bd rfl (Ra rfl) rfl) ?_
 refine Za ?_
 refine Zx <| Zs ?_
 refine Zu (Aq (vs := [_, _]) rfl rfl Bs Bd rfl (Ai rfl)) ?_
 refine Zo (As (cs := #[_, _]) rfl rfl EZ rfl rfl) ?_
 refine Zy (Ah (cs' := #[_, _]) rfl rfl rfl Bd rfl (Ra rfl) rfl) ?_
 refine Zy (Ah (cs' := #[_, _]) rfl rfl rfl BH rfl (Ra rfl) rfl) ?_
 refine Zx <| DC.ret ?_
 refine B5 (cs := #[_, _]) (cs' := #[_, _]) (.inl rfl) rfl rfl rfl Bs Bd Da BH ?_
 have hc0 : code = 0 := by simpa using c2
 refine ⟨[slc (.slice A2 l2 c2') 43 2 (prs es)], fun w hw => hw.pick (.cons 1 rfl .nil), N', A2, l2, c2', 0, 0, es, rfl, rfl, fun _ => ⟨n, ps, hok hc0, ?_⟩, by simp⟩
 by_cases he : e2 = 0
 ·exact .inl ⟨(hmk he).1, (hmk he).2⟩
 exact .inr (hno he)
/-- What check.Bytes answers. -/
def BytesR (bs cs : List UInt8) (e : Int) : Prop :=
 ((∀ N es, ¬ ReadR bs N es) ∧ e = 180) ∨ ∃ N es, ReadR bs N es ∧ ((certA cs = none ∧ e = 181) ∨ ∃ pl ls c, certA cs = some (pl, ls, c) ∧ e = chkF N es pl ls c)
theorem BytesR.uniq {bs cs : List UInt8} {e e' : Int} (h : BytesR bs cs e) (h' : BytesR bs cs e') : e = e' := by
 rcases h with ⟨h1, rfl⟩ | ⟨N, es, h1, h2⟩ <;> rcases h' with ⟨h3, rfl⟩ | ⟨N', es', h3, h4⟩
 ·rfl
 ·exact absurd h3 (h1 _ _)
 ·exact absurd h1 (h3 _ _)
 obtain ⟨rfl, rfl⟩ := h1.uniq h3
 rcases h2 with ⟨a, rfl⟩ | ⟨pl, ls, c, a, rfl⟩ <;> rcases h4 with ⟨b, rfl⟩ | ⟨pl', ls', c', b, rfl⟩
 ·rfl
 ·rw [a] at b; cases b
 ·rw [a] at b; cases b
 rw [a] at b; cases b; rfl
theorem Iv {vb vc : Value} {bs cs : List UInt8} {w : World} (hB : ByV w vb bs) (hC : ByV w vc cs) (hp : Pow w) :
  Calls Tryz.prog 19 #[vb, vc] w (Ret w [] fun r M => M = [] ∧ ∃ e, r = .int .i64 e ∧ BytesR bs cs e) := by
 refine Ao (K := []) (args := [_, _]) (L := []) Tryz.func19 rfl Tryz.ntmps19 rfl (Own.start _ _) ?_
 refine Zs ?_
 refine Za ?_
 refine Zx <| Zs ?_
 refine Zm ?_
 refine Seq.rel rfl rfl (Am Qs rfl rfl rfl (fun w hw => IT (hB.keep0 hw))) ?_
 rintro _ _ ⟨N, A, l, c, code, at', es, rfl, rfl, hok, hbad⟩
 simp only [zs]
 refine Zm ?_
 iterate 2 refine Ze ?_
 refine Zw (Ay rfl FF rfl) fun g5 => ?_
 refine Zw (Ay rfl HL rfl) fun g6 => ?_
 refine Zy (Ah (cs' := #[_, _]) rfl rfl rfl Bd rfl (Ra rfl) rfl) ?_
 refine Zy (Ah (cs' := #[_, _]) rfl rfl rfl BH rfl (Ra rfl) rfl) ?_
 refine Zx <| DC.seq <| Zs ?_
 refine Zf GJ ?_
 refine Zl Fq ?_
 refine Zo (BQ rfl rfl rfl) ?_
 refine Zx ?_
 refine Zd (fun c2 => ?_) fun c2 => ?_
 ·have hR : BytesR bs cs 180 := .inl ⟨hbad (by simpa using c2), rfl⟩
  refine Zs ?_
  refine Za ?_
  refine Zx <| DC.ret <| Aa ?_
  refine Fin.weak (E' := [(4, _)]) (L' := []) ⟨rfl, trivial⟩ .nil ?_
  refine Zh ?_
  exact ⟨rfl, _, rfl, hR⟩
 have hr : ReadR bs N es := hok (by simpa using c2)
 have hfew := hr.few
 refine DC.skip <| Fin.then <| Zs ?_
 refine Zm ?_
 refine Seq.rel rfl rfl (Am en22 rfl rfl rfl (fun w hw => J0 (hC.keep0 hw))) ?_
 rintro _ _ ⟨pl, Av, lv, cv, Au, lu, cu, x, e, ck, ls, ces, rfl, rfl, hyes, hno⟩
 simp only [zs]
 refine Zm ?_
 iterate 3 refine Ze ?_
 refine Zw (Ay rfl J8 rfl) fun g7 => ?_
 refine Zy (Ah (cs' := #[_, _, _]) rfl rfl rfl BA rfl (Ra rfl) rfl) ?_
 iterate 2 refine Za ?_
 refine Zx <| DC.seq <| Zs ?_
 refine Zm ?_
 refine Zo (BQ rfl rfl rfl) ?_
 refine Zx ?_
 refine Zd (fun c5 => ?_) fun c5 => ?_
 ·have hR : BytesR bs cs 181 := .inr ⟨N, es, hr, .inl ⟨hno (by simpa using c5), rfl⟩⟩
  refine Zs ?_
  refine Za ?_
  refine Zx <| DC.ret <| Aa ?_
  refine Fin.weak (E' := [(4, _)]) (L' := []) ⟨rfl, trivial⟩ .nil ?_
  refine Zh ?_
  exact ⟨rfl, _, rfl, hR⟩
 obtain ⟨hcs, hck, hll, hls⟩ := hyes (by simpa using c5)
 refine DC.skip <| Fin.then <| Zs ?_
 refine Zu (Aq (vs := [_, _]) rfl rfl Bs Bd rfl (Ai rfl)) ?_
 refine Zu (Aq (vs := [_, _, _]) rfl rfl B7 BA rfl (Ai rfl)) ?_
 refine Seq.rel0 rfl rfl (Am My rfl rfl rfl (fun w hw => Cf (BZ hw 4 rfl (by omega)) (hck _ _ _ _ 1 hw rfl).1 (hck _ _ _ _ 1 hw rfl).2 (hp.keep0 hw) (fun l hl => Nat.le_trans (MV hl) (ME hcs)))) ?_
 rintro _ rfl
 have hR : BytesR bs cs (chkF N es pl ls ces) := .inr ⟨N, es, hr, .inr ⟨pl, ls, ces, hcs, rfl⟩⟩
 refine Za ?_
 refine Zx <| DC.ret ?_
 refine Fin.weak (E' := [(4, _)]) (L' := []) ⟨rfl, trivial⟩ .nil ?_
 refine Zh ?_
 exact ⟨rfl, _, rfl, hR⟩
end Go.Fl

namespace Go.Fl
open Go Go.Proofs
open Classical
def es4 : List Pr := [(0, 1), (0, 2), (0, 3), (1, 2), (1, 3), (2, 3)]
def lsA : List (List Int) := [[1, 2, 3], [0, 3, 2], [0, 1, 3], [0, 2, 1]]
def lsB : List (List Int) := [[1, 2, 3], [0, 2, 3], [0, 1, 3], [0, 1, 2]]
def rsA : List (List Int) := [[0, 2, 4], [1, 8, 6], [3, 7, 10], [5, 11, 9]]
def rsB : List (List Int) := [[0, 2, 4], [1, 6, 8], [3, 7, 10], [5, 9, 11]]
theorem Pp {v : Nat} {α : Type} {a b c d x : α} (h : [a, b, c, d][v]? = some x) : (v = 0 ∧ x = a) ∨ (v = 1 ∧ x = b) ∨ (v = 2 ∧ x = c) ∨ (v = 3 ∧ x = d) := by
 match v, h with
 | 0, h => simp at h; exact .inl ⟨rfl, h.symm⟩
 | 1, h => simp at h; exact .inr (.inl ⟨rfl, h.symm⟩)
 | 2, h => simp at h; exact .inr (.inr (.inl ⟨rfl, h.symm⟩))
 | 3, h => simp at h; exact .inr (.inr (.inr ⟨rfl, h.symm⟩))
 | v + 4, h => simp at h
theorem Q6 {v : Nat} {α : Type} {a b c x : α} (h : [a, b, c][v]? = some x) : (v = 0 ∧ x = a) ∨ (v = 1 ∧ x = b) ∨ (v = 2 ∧ x = c) := by
 match v, h with
 | 0, h => simp at h; exact .inl ⟨rfl, h.symm⟩
 | 1, h => simp at h; exact .inr (.inl ⟨rfl, h.symm⟩)
 | 2, h => simp at h; exact .inr (.inr ⟨rfl, h.symm⟩)
 | v + 3, h => simp at h
theorem LW : Vld 4 es4 where
 lo := by decide
 hi := by decide
 few := by decide
 ok := by
  intro i e h
  match i, h with
  | 0, h => cases h; exact ⟨by decide, by decide, by decide⟩
  | 1, h => cases h; exact ⟨by decide, by decide, by decide⟩
  | 2, h => cases h; exact ⟨by decide, by decide, by decide⟩
  | 3, h => cases h; exact ⟨by decide, by decide, by decide⟩
  | 4, h => cases h; exact ⟨by decide, by decide, by decide⟩
  | 5, h => cases h; exact ⟨by decide, by decide, by decide⟩
  | i + 6, h => simp [es4] at h
 up := by
  intro i a b h k
  match i, h, k with
  | 0, h, k => cases h; cases k; exact .inr ⟨by decide, by decide⟩
  | 1, h, k => cases h; cases k; exact .inr ⟨by decide, by decide⟩
  | 2, h, k => cases h; cases k; exact .inl (by decide)
  | 3, h, k => cases h; cases k; exact .inr ⟨by decide, by decide⟩
  | 4, h, k => cases h; cases k; exact .inl (by decide)
  | i + 5, h, k => simp [es4] at k
theorem QX {v : Nat} (h0 : 0 < v) (h : v < 4) : Conn es4 0 v := by
 refine .edge 0 v ?_
 match v, h0, h with
 | 1, _, _ => decide
 | 2, _, _ => decide
 | 3, _, _ => decide
theorem Nk : ncomp 4 es4 = 1 := by
 have e : List.range 4 = [0, 1, 2, 3] := rfl
 unfold ncomp
 rw [e]
 have h0 : ∀ y, y < 0 → ¬ Conn es4 y 0 := fun y h => by omega
 have h1 : ∀ v, 0 < v → v < 4 → ¬ (∀ y, y < v → ¬ Conn es4 y v) := fun v h1 h2 h => h 0 h1 (QX h1 h2)
 rw [List.countP_cons, List.countP_cons, List.countP_cons, List.countP_cons, List.countP_nil, if_neg (by simpa using h1 3 (by decide) (by decide)), if_neg (by simpa using h1 2 (by decide) (by decide)), if_neg (by simpa using h1 1 (by decide) (by decide)), if_pos (decide_eq_true h0)]
theorem Qd : isoN 4 es4 = 0 := by decide
def tabF (l : List Int) (h : Nat) : Int := (l[h]?).getD 0
/-- by half-edge the next one -/
def fnA : Nat → Int := tabF [2, 8, 4, 7, 0, 11, 1, 10, 6, 5, 3, 9]
def fnB : Nat → Int := tabF [2, 6, 4, 7, 0, 9, 8, 10, 1, 11, 3, 5]
theorem Ea {f : Nat → Nat} {x m : Nat} (h0 : 0 < m) (h1 : itr f m x = x) (h2 : ∀ k, k < m → x ≤ itr f k x) : Lead f x := by
 intro k
 induction k using Nat.strongRecOn with
 | _ k ih =>
  by_cases hk : k < m
  ·exact h2 k hk
  have := ih (k - m) (by omega)
  have e : itr f k x = itr f (k - m) (itr f m x) := by rw [← Dr]; congr 1; omega
  rw [e, h1]; exact this
theorem Bn {f : Nat → Nat} {x k : Nat} (h : itr f k x < x) : ¬ Lead f x := fun hl => by have := hl k; omega
theorem Px : facesN es4 fnA = 4 := by
 have h0 : decide (Lead (phi fnA) 0) = true := decide_eq_true (Ea (m := 3) (by decide) (by decide) (by decide))
 have h1 : decide (Lead (phi fnA) 1) = true := decide_eq_true (Ea (m := 3) (by decide) (by decide) (by decide))
 have h2 : decide (Lead (phi fnA) 2) = false := decide_eq_false (Bn (k := 2) (by decide))
 have h3 : decide (Lead (phi fnA) 3) = true := decide_eq_true (Ea (m := 3) (by decide) (by decide) (by decide))
 have h4 : decide (Lead (phi fnA) 4) = false := decide_eq_false (Bn (k := 2) (by decide))
 have h5 : decide (Lead (phi fnA) 5) = false := decide_eq_false (Bn (k := 1) (by decide))
 have h6 : decide (Lead (phi fnA) 6) = true := decide_eq_true (Ea (m := 3) (by decide) (by decide) (by decide))
 have h7 : decide (Lead (phi fnA) 7) = false := decide_eq_false (Bn (k := 1) (by decide))
 have h8 : decide (Lead (phi fnA) 8) = false := decide_eq_false (Bn (k := 2) (by decide))
 have h9 : decide (Lead (phi fnA) 9) = false := decide_eq_false (Bn (k := 1) (by decide))
 have h10 : decide (Lead (phi fnA) 10) = false := decide_eq_false (Bn (k := 2) (by decide))
 have h11 : decide (Lead (phi fnA) 11) = false := decide_eq_false (Bn (k := 1) (by decide))
 have e : List.range (es4.length * 2) = [0, 1, 2, 3, 4, 5, 6, 7, 8, 9, 10, 11] := rfl
 unfold facesN headsOf
 rw [e, List.length_map]
 simp only [List.filter_cons, List.filter_nil, h0, h1, h2, h3, h4, h5, h6, h7, h8, h9, h10, h11]
 rfl
theorem Pw : facesN es4 fnB = 2 := by
 have h0 : decide (Lead (phi fnB) 0) = true := decide_eq_true (Ea (m := 4) (by decide) (by decide) (by decide))
 have h1 : decide (Lead (phi fnB) 1) = true := decide_eq_true (Ea (m := 8) (by decide) (by decide) (by decide))
 have h2 : decide (Lead (phi fnB) 2) = false := decide_eq_false (Bn (k := 7) (by decide))
 have h3 : decide (Lead (phi fnB) 3) = false := decide_eq_false (Bn (k := 3) (by decide))
 have h4 : decide (Lead (phi fnB) 4) = false := decide_eq_false (Bn (k := 2) (by decide))
 have h5 : decide (Lead (phi fnB) 5) = false := decide_eq_false (Bn (k := 1) (by decide))
 have h6 : decide (Lead (phi fnB) 6) = false := decide_eq_false (Bn (k := 3) (by decide))
 have h7 : decide (Lead (phi fnB) 7) = false := decide_eq_false (Bn (k := 6) (by decide))
 have h8 : decide (Lead (phi fnB) 8) = false := decide_eq_false (Bn (k := 5) (by decide))
 have h9 : decide (Lead (phi fnB) 9) = false := decide_eq_false (Bn (k := 1) (by decide))
 have h10 : decide (Lead (phi fnB) 10) = false := decide_eq_false (Bn (k := 2) (by decide))
 have h11 : decide (Lead (phi fnB) 11) = false := decide_eq_false (Bn (k := 4) (by decide))
 have e : List.range (es4.length * 2) = [0, 1, 2, 3, 4, 5, 6, 7, 8, 9, 10, 11] := rfl
 unfold facesN headsOf
 rw [e, List.length_map]
 simp only [List.filter_cons, List.filter_nil, h0, h1, h2, h3, h4, h5, h6, h7, h8, h9, h10, h11]
 rfl
theorem Pt : genus2 4 es4 fnA = 0 := by unfold genus2; rw [Nk, Qd, Px]; rfl
theorem Ps : genus2 4 es4 fnB = 2 := by unfold genus2; rw [Nk, Qd, Pw]; rfl
theorem Fj {es : List Pr} {u v x : Int} (h : rhalfF u v 0 es = x) (hx : x ≠ -1) : IsHalf es u v x := by
 rcases Kj (es := es) u v with h1 | ⟨h1, _⟩
 ·rw [h] at h1; exact h1
 omega
theorem Ny {es : List Pr} {v : Nat} {l : List Int} (h : ∀ u, u ∈ l → rhalfF v u 0 es ≠ -1) : ∀ u, u ∈ l → ∃ h, IsHalf es v u h := fun u hu => ⟨_, Fj rfl (h u hu)⟩
theorem Pj : RotOk 4 es4 lsA := by
 refine ⟨LW, by decide, fun v l hl => ?_⟩
 rcases Pp hl with ⟨rfl, rfl⟩ | ⟨rfl, rfl⟩ | ⟨rfl, rfl⟩ | ⟨rfl, rfl⟩ <;> exact ⟨Ny (by decide), by decide, by decide⟩
theorem M4 : RotOk 4 es4 lsB := by
 refine ⟨LW, by decide, fun v l hl => ?_⟩
 rcases Pp hl with ⟨rfl, rfl⟩ | ⟨rfl, rfl⟩ | ⟨rfl, rfl⟩ | ⟨rfl, rfl⟩ <;> exact ⟨Ny (by decide), by decide, by decide⟩
theorem P4 : RotR es4 lsA rsA := by
 refine ⟨rfl, fun v l r hl hr => ?_⟩
 rcases Pp hl with ⟨rfl, rfl⟩ | ⟨rfl, rfl⟩ | ⟨rfl, rfl⟩ | ⟨rfl, rfl⟩ <;> cases hr <;> refine ⟨rfl, fun j u h hj hk => ?_⟩ <;> rcases Q6 hj with ⟨rfl, rfl⟩ | ⟨rfl, rfl⟩ | ⟨rfl, rfl⟩ <;> cases hk <;> exact Fj (by decide) (by decide)
theorem P3 : RotR es4 lsB rsB := by
 refine ⟨rfl, fun v l r hl hr => ?_⟩
 rcases Pp hl with ⟨rfl, rfl⟩ | ⟨rfl, rfl⟩ | ⟨rfl, rfl⟩ | ⟨rfl, rfl⟩ <;> cases hr <;> refine ⟨rfl, fun j u h hj hk => ?_⟩ <;> rcases Q6 hj with ⟨rfl, rfl⟩ | ⟨rfl, rfl⟩ | ⟨rfl, rfl⟩ <;> cases hk <;> exact Fj (by decide) (by decide)
theorem P9 : NxOk rsA rsA.length fnA := by
 intro x l i h hx hl hi
 rcases Pp hl with ⟨rfl, rfl⟩ | ⟨rfl, rfl⟩ | ⟨rfl, rfl⟩ | ⟨rfl, rfl⟩ <;> rcases Q6 hi with ⟨rfl, rfl⟩ | ⟨rfl, rfl⟩ | ⟨rfl, rfl⟩ <;> rfl
theorem P8 : NxOk rsB rsB.length fnB := by
 intro x l i h hx hl hi
 rcases Pp hl with ⟨rfl, rfl⟩ | ⟨rfl, rfl⟩ | ⟨rfl, rfl⟩ | ⟨rfl, rfl⟩ <;> rcases Q6 hi with ⟨rfl, rfl⟩ | ⟨rfl, rfl⟩ | ⟨rfl, rfl⟩ <;> rfl
theorem Qh : FlatP 4 es4 lsA := ⟨rsA, fnA, P4, P9, Pt⟩
theorem Qg : ¬ FlatP 4 es4 lsB := by
 rintro ⟨rs, fn, h1, h2, h3⟩
 have := Hi LW h1 P3
 subst this
 have h4 := GF (n := 4) (HV M4 h1) h2 P8
 rw [h3, Ps] at h4
 omega
theorem Je {ls : List (List Int)} (h1 : ls.length ≤ 4) (h : ∀ l, l ∈ ls → ∀ n, n ∈ l → Fits n ∧ ∀ a, l[0]? = some a → a ≤ n) : ListsOk ls := by
 refine ⟨by omega, fun i l hl j n a hj ha => ?_⟩
 have := h l (Rc hl) n (Rc hj)
 exact ⟨this.1, this.2 a ha⟩
theorem Fh {ls : List (List Int)} (h : ∀ l, l ∈ ls → l.length ≤ 3 ∧ ∀ a, a ∈ l → I64 a) : (ls.map lineB).flatten.length ≤ 100 * ls.length := by
 induction ls with
 | nil => simp
 | cons l r ih =>
  have h1 := h l (Ri ..)
  have h2 := Cr h1.2
  have h3 := ih (fun l' hl => h l' (Rm _ hl))
  simp only [List.map_cons, List.flatten_cons, List.length_append, List.length_cons]
  omega
theorem PV : TextOk true lsA [] := by
 refine ⟨⟨rfl, Je (by decide) (by unfold Fits; decide)⟩, ?_⟩
 have h1 := Eb (letter := [112]) (n := 4) rfl (by decide)
 have h2 := Fh (ls := lsA) (by unfold I64; decide)
 have h3 : lsA.length = 4 := rfl
 simp only [certB, textB, List.length_append, if_true, List.length_map, h3] at h1 h2 ⊢
 omega
theorem Pg : TextOk true lsB [] := by
 refine ⟨⟨rfl, Je (by decide) (by unfold Fits; decide)⟩, ?_⟩
 have h1 := Eb (letter := [112]) (n := 4) rfl (by decide)
 have h2 := Fh (ls := lsB) (by unfold I64; decide)
 have h3 : lsB.length = 4 := rfl
 simp only [certB, textB, List.length_append, if_true, List.length_map, h3] at h1 h2 ⊢
 omega
def cs4 : List Pr := [(0, 1), (0, 4)]
theorem PU : TextOk false [] cs4 := by
 refine ⟨⟨rfl, ⟨by decide, fun i e h => ?_, fun i a b h k => ?_⟩⟩, ?_⟩
 ·match i, h with
  | 0, h => cases h; unfold Fits; decide
  | 1, h => cases h; unfold Fits; decide
  | i + 2, h => simp [cs4] at h
 ·match i, h, k with
  | 0, h, k => cases h; cases k; exact .inr ⟨rfl, by decide⟩
  | i + 1, h, k => simp [cs4] at k
 have h1 := Eb (letter := [110]) (n := 2) rfl (by decide)
 have h2 := Fh (ls := [[0, 1], [0, 4]]) (by unfold I64; decide)
 simp only [certB, textB, List.length_append, List.length_map, cs4, List.map_cons, List.map_nil, List.length_cons, List.length_nil] at h1 h2 ⊢
 simp only [Bool.false_eq_true, if_false, List.length_append]
 simp at h1 h2 ⊢
 omega
theorem chkA : chkF 4 es4 true lsA [] = 0 := by
 unfold chkF
 rw [if_neg (not_not_intro LW), if_neg (not_not_intro PV), if_pos rfl, if_neg (not_not_intro Pj), if_neg (not_not_intro (show FlatP (4 : Int).toNat es4 lsA from Qh))]
theorem chkB : chkF 4 es4 true lsB [] = 183 := by
 unfold chkF
 rw [if_neg (not_not_intro LW), if_neg (not_not_intro Pg), if_pos rfl, if_neg (not_not_intro M4), if_pos (show ¬ FlatP (4 : Int).toNat es4 lsB from Qg)]
theorem chkC : chkF 4 es4 false [] cs4 = 184 := by
 unfold chkF
 rw [if_neg (not_not_intro LW), if_neg (not_not_intro PU), if_neg (by decide), if_pos]
 intro h
 have := h (0, 4) (by decide)
 revert this; decide
/-- "1 1\n0 1\n" -/
def txt4 : List UInt8 := [49, 32, 49, 10, 48, 32, 49, 10]
theorem raw4 : rawF txt4 = .bad 24 6 := by
 simp [rawF, scanA, txt4, scanF, isDig, digs, decF, feedF, lineF, endF]
end Go.Fl

namespace Go.Fl
open Go Go.Proofs
theorem OX {vb : Value} {bs : List UInt8} {c a : Int} {w : World} (hB : ByV w vb bs) (h : rawF bs = .bad c a) :
  Calls Tryz.prog 38 #[vb] w (Ret w [] fun r M => M = [] ∧ c ≠ 0 ∧ r = .tuple #[.agg #[.int .i64 0, .slice none 0 0], .agg #[.int .i64 c, .int .i64 a]]) := by
 refine Calls.mono (HJ hB) ?_
 rintro e w' ⟨v, L', rfl, ⟨n, ps, vp, h1, _⟩ | ⟨c', a', h1, h2, rfl, rfl⟩, hO⟩
 ·rw [h] at h1; cases h1
 rw [h] at h1; cases h1; exact ⟨_, _, rfl, ⟨rfl, h2, rfl⟩, hO⟩
theorem Oa {vb : Value} {bs : List UInt8} {c a : Int} {w : World} (hB : ByV w vb bs) (h : rawF bs = .bad c a) :
  Calls Tryz.prog 21 #[vb] w (Ret w [] fun r M => M = [] ∧ c ≠ 0 ∧ r = .tuple #[.agg #[.int .i64 0, .slice none 0 0], .agg #[.int .i64 c, .int .i64 a]]) := by
 refine Ao (K := []) (args := [_]) (L := []) Tryz.func21 rfl Tryz.ntmps21 rfl (Own.start _ _) ?_
 refine Zs ?_
 refine Zw (Ay rfl FF rfl) fun g2 => ?_
 refine Zw (Ay rfl HL rfl) fun g3 => ?_
 refine Zx <| Zs ?_
 refine Zm ?_
 refine Seq.rel0 rfl rfl (Am Qo rfl rfl rfl (fun w hw => OX (hB.keep0 hw) h)) ?_
 rintro _ ⟨hc0, rfl⟩
 refine Zm ?_
 iterate 2 refine Ze ?_
 refine Zw (Ay rfl Pd rfl) fun g4 => ?_
 refine Zw (Ay rfl HL rfl) fun g5 => ?_
 refine Zy (Ah (cs' := #[_, _]) rfl rfl rfl Ej rfl (Ra rfl) rfl) ?_
 refine Zy (Ah (cs' := #[_, _]) rfl rfl rfl BH rfl (Ra rfl) rfl) ?_
 refine Zx <| DC.seq <| Zs ?_
 refine Zf GJ ?_
 refine Zl Fq ?_
 refine Zo (BQ rfl rfl rfl) ?_
 refine Zx ?_
 refine Zd (fun c2 => ?_) fun c2 => ?_
 ·refine DC.seq ?_
  refine AC (cl := [.q, .q, .g, .g]) (A := [0, 0, 1, 7]) (order := [0, 1, 2, 3]) ([blk g5 51 #[.int .i64 c, .int .i64 a]]) mixed (by kernel_rfl) (fun w hw => hw.pick (.cons 0 rfl .nil)) ?_
  refine Yo rfl (As (cs := #[_, _]) rfl rfl E1 rfl rfl) ?_
  refine Flow.old rfl rfl rfl (Aq (vs := [_, _]) rfl rfl Da BH rfl (Ai rfl)) ?_
  refine AD rfl rfl rfl rfl (Ah (cs' := #[_, _]) rfl rfl rfl Bd rfl (Ra rfl) rfl) (fun w hw => hw.pick (.cons 0 rfl .nil)) ?_
  refine AD rfl rfl rfl rfl (Ah (cs' := #[_, _]) rfl rfl rfl BH rfl (Ra rfl) rfl) (fun w hw => hw.pick (.cons 0 rfl .nil)) ?_
  refine Flow.end rfl ?_
  simp only [zq, zr]
  refine Fin.then <| DC.ret <| Aa ?_
  refine B5 (cs := #[_, _]) (cs' := #[_, _]) (.inl rfl) rfl rfl rfl Bs Bd Da BH ?_
  exact ⟨[], fun w hw => hw.pick .nil, rfl, hc0, rfl⟩
 exact absurd c2 (by simpa using hc0)
theorem MN {vb vc : Value} {bs : List UInt8} {c a : Int} {w : World} (hB : ByV w vb bs) (h : rawF bs = .bad c a) :
  Calls Tryz.prog 19 #[vb, vc] w (Ret w [] fun r M => M = [] ∧ r = .int .i64 180) := by
 refine Ao (K := []) (args := [_, _]) (L := []) Tryz.func19 rfl Tryz.ntmps19 rfl (Own.start _ _) ?_
 refine Zs ?_
 refine Za ?_
 refine Zx <| Zs ?_
 refine Zm ?_
 refine Seq.rel0 rfl rfl (Am Qs rfl rfl rfl (fun w hw => Oa (hB.keep0 hw) h)) ?_
 rintro _ ⟨hc0, rfl⟩
 refine Zm ?_
 iterate 2 refine Ze ?_
 refine Zw (Ay rfl FF rfl) fun g5 => ?_
 refine Zw (Ay rfl HL rfl) fun g6 => ?_
 refine Zy (Ah (cs' := #[_, _]) rfl rfl rfl Bd rfl (Ra rfl) rfl) ?_
 refine Zy (Ah (cs' := #[_, _]) rfl rfl rfl BH rfl (Ra rfl) rfl) ?_
 refine Zx <| DC.seq <| Zs ?_
 refine Zf GJ ?_
 refine Zl Fq ?_
 refine Zo (BQ rfl rfl rfl) ?_
 refine Zx ?_
 refine Zd (fun c2 => ?_) fun c2 => ?_
 ·refine Zs ?_
  refine Za ?_
  refine Zx <| DC.ret <| Aa ?_
  refine Fin.weak (E' := [(4, _)]) ⟨rfl, trivial⟩ .nil ?_
  refine Zh ?_
  exact ⟨rfl, rfl⟩
 exact absurd c2 (by simpa using hc0)
theorem Eu {w : World} : Calls Tryz.prog 29 #[] w (Ret w [] fun r M => ∃ g, r = .agg #[.int .i64 4, .slice (some ⟨g, 0, none⟩) 6 6] ∧ M = [blk g 43 (prs es4).toArray]) := by
 refine Ao (K := []) (args := []) (L := []) Tryz.func29 rfl Tryz.ntmps29 rfl (Own.start _ _) ?_
 refine Zs ?_
 refine Zw (Ay rfl FF rfl) fun g0 => ?_
 refine Zx <| Zs ?_
 refine Zo (As (cs := #[_, _]) rfl rfl E0 rfl rfl) ?_
 refine Zo (As (cs := #[_, _]) rfl rfl E0 rfl rfl) ?_
 refine Zo (As (cs := #[_, _]) rfl rfl E0 rfl rfl) ?_
 refine Zo (As (cs := #[_, _]) rfl rfl E0 rfl rfl) ?_
 refine Zo (As (cs := #[_, _]) rfl rfl E0 rfl rfl) ?_
 refine Zo (As (cs := #[_, _]) rfl rfl E0 rfl rfl) ?_
 refine Zw (AM (cs := #[_, _, _, _, _, _, _, _, _, _, _, _]) rfl rfl Ru AP B6 rfl (by decide) (by decide) rfl rfl) fun g7 => ?_
 refine Zo (As (cs := #[_, _]) rfl rfl E1 rfl rfl) ?_
 refine Zy (Ah (cs' := #[_, _]) rfl rfl rfl Bd rfl (Ra rfl) rfl) ?_
 refine Zx <| DC.ret ?_
 refine BT (cs := #[_, _]) (.inl rfl) rfl rfl Bs Bd ?_
 exact ⟨_, fun w hw => hw.pick (.cons 0 rfl .nil), g7, rfl, rfl⟩
theorem Jc {w0 w : World} {K : List Nat} {L : List Chunk} {g t : Nat} {v0 v1 v2 v3 : Value} {l0 l1 l2 l3 : List Int} [h : Find L g t #[v0, v1, v2, v3]] (hw : Own w0 K w L) (h0 : SlV w v0 l0) (h1 : SlV w v1 l1) (h2 : SlV w v2 l2) (h3 : SlV w v3 l3) :
  LsV w (.slice (some ⟨g, 0, none⟩) 4 4) [l0, l1, l2, l3] := by
 have hg := hw.holds _ h.mem
 refine ⟨some ⟨g, 0, none⟩, 4, rfl, fun i l hl => ?_, by simp, by decide, by simp⟩
 rcases Pp hl with ⟨rfl, rfl⟩ | ⟨rfl, rfl⟩ | ⟨rfl, rfl⟩ | ⟨rfl, rfl⟩
 ·exact ⟨_, v0, rfl, by rw [Az]; exact JS hg rfl, h0⟩
 ·exact ⟨_, v1, rfl, by rw [Az]; exact JS hg rfl, h1⟩
 ·exact ⟨_, v2, rfl, by rw [Az]; exact JS hg rfl, h2⟩
 exact ⟨_, v3, rfl, by rw [Az]; exact JS hg rfl, h3⟩
theorem Li {w : World} {c : Nat} (hc : c ≤ 9223372036854775807) : PrV w (.slice none 0 c) [] := ⟨none, c, rfl, fun j u h => by simp [prs] at h, Nat.zero_le _, hc, by simp⟩
theorem OH {w : World} {c : Nat} (hc : c ≤ 9223372036854775807) : LsV w (.slice none 0 c) [] := ⟨none, c, rfl, fun i l h => by simp at h, Nat.zero_le _, hc, by simp⟩
theorem II {w : World} (hp : Pow w) : Calls Tryz.prog 9 #[] w (Ret w [] fun r M => M = [] ∧ r = .bool true) := by
 refine Ao (K := []) (args := []) (L := []) Tryz.func9 rfl Tryz.ntmps9 rfl (Own.start _ _) ?_
 refine Zs ?_
 refine Za ?_
 refine Zx <| Zs ?_
 refine Seq.rel rfl rfl (Am PD rfl rfl rfl (fun w hw => Eu)) ?_
 rintro _ _ ⟨g5, rfl, rfl⟩
 simp only [List.cons_append, List.nil_append, List.append_nil]
 refine Zw (AM (cs := #[_, _, _]) rfl rfl Rt AN Cg rfl (by decide) (by decide) rfl rfl) fun g6 => ?_
 refine Zw (AM (cs := #[_, _, _]) rfl rfl Rt AN Cg rfl (by decide) (by decide) rfl rfl) fun g7 => ?_
 refine Zw (AM (cs := #[_, _, _]) rfl rfl Rt AN Cg rfl (by decide) (by decide) rfl rfl) fun g8 => ?_
 refine Zw (AM (cs := #[_, _, _]) rfl rfl Rt AN Cg rfl (by decide) (by decide) rfl rfl) fun g9 => ?_
 refine Zw (AM (cs := #[_, _, _, _]) rfl rfl Rw Cn DJ rfl (by decide) (by decide) rfl rfl) fun g10 => ?_
 refine Zo (As (cs := #[_, _, _]) rfl rfl MG rfl rfl) ?_
 refine Seq.rel0 rfl rfl (Am My rfl rfl rfl (fun w hw => Cf (N := 4) (es := es4) (pl := true) (ls := lsA) (cs := []) (FI (g := g5) hw rfl rfl (by decide)) (Jc (g := g10) hw (B2 (g := g6) hw rfl rfl (by decide)) (B2 (g := g7) hw rfl rfl (by decide)) (B2 (g := g8) hw rfl rfl (by decide)) (B2 (g := g9) hw rfl rfl (by decide))) (Li (by decide)) (hp.keep0 hw) (by decide))) ?_
 rintro _ rfl
 rw [chkA]
 refine Za ?_
 refine Zx <| Zs ?_
 refine Seq.rel rfl rfl (Am PD rfl rfl rfl (fun w hw => Eu)) ?_
 rintro _ _ ⟨g13, rfl, rfl⟩
 simp only [List.cons_append, List.nil_append, List.append_nil]
 refine Zw (AM (cs := #[_, _, _]) rfl rfl Rt AN Cg rfl (by decide) (by decide) rfl rfl) fun g14 => ?_
 refine Zw (AM (cs := #[_, _, _]) rfl rfl Rt AN Cg rfl (by decide) (by decide) rfl rfl) fun g15 => ?_
 refine Zw (AM (cs := #[_, _, _]) rfl rfl Rt AN Cg rfl (by decide) (by decide) rfl rfl) fun g16 => ?_
 refine Zw (AM (cs := #[_, _, _]) rfl rfl Rt AN Cg rfl (by decide) (by decide) rfl rfl) fun g17 => ?_
 refine Zw (AM (cs := #[_, _, _, _]) rfl rfl Rw Cn DJ rfl (by decide) (by decide) rfl rfl) fun g18 => ?_
 refine Zo (As (cs := #[_, _, _]) rfl rfl MG rfl rfl) ?_
 refine Seq.rel0 rfl rfl (Am My rfl rfl rfl (fun w hw => Cf (N := 4) (es := es4) (pl := true) (ls := lsB) (cs := []) (FI (g := g13) hw rfl rfl (by decide)) (Jc (g := g18) hw (B2 (g := g14) hw rfl rfl (by decide)) (B2 (g := g15) hw rfl rfl (by decide)) (B2 (g := g16) hw rfl rfl (by decide)) (B2 (g := g17) hw rfl rfl (by decide))) (Li (by decide)) (hp.keep0 hw) (by decide))) ?_
 rintro _ rfl
 rw [chkB]
 refine Za ?_
 refine Zx <| Zs ?_
 refine Seq.rel rfl rfl (Am PD rfl rfl rfl (fun w hw => Eu)) ?_
 rintro _ _ ⟨g21, rfl, rfl⟩
 simp only [List.cons_append, List.nil_append, List.append_nil]
 refine Zo (As (cs := #[_, _]) rfl rfl E0 rfl rfl) ?_
 refine Zo (As (cs := #[_, _]) rfl rfl E0 rfl rfl) ?_
 refine Zw (AM (cs := #[_, _, _, _]) rfl rfl Ru AP B6 rfl (by decide) (by decide) rfl rfl) fun g24 => ?_
 refine Zo (As (cs := #[_, _, _]) rfl rfl MG rfl rfl) ?_
 refine Seq.rel0 rfl rfl (Am My rfl rfl rfl (fun w hw => Cf (N := 4) (es := es4) (pl := false) (ls := []) (cs := cs4) (FI (g := g21) hw rfl rfl (by decide)) (OH (by decide)) (FI (g := g24) hw rfl rfl (by decide)) (hp.keep0 hw) (by simp))) ?_
 rintro _ rfl
 rw [chkC]
 refine Za ?_
 refine Zx <| Zs ?_
 refine Zw (AM (cs := #[_, _, _, _, _, _, _, _]) rfl rfl Rv MS ze5 rfl (by decide) (by decide) rfl rfl) fun g27 => ?_
 refine Seq.gen rfl rfl (Pu (cs := #[_, _, _, _, _, _, _, _]) rfl rfl Rv Tryz.underlying5 (fun w hw => hw)) ?_
 rintro _ _ ⟨rfl, rfl⟩
 refine Seq.rel0 rfl rfl (Am Qz rfl rfl rfl (fun w hw => MN (bs := txt4) (c := 24) (a := 6) (Iw (bs := txt4) (cap := 8) (sp := []) hw 0 rfl (by decide) (by decide)) raw4)) ?_
 rintro _ rfl
 refine Za ?_
 refine Zx <| Zs ?_
 refine Zm ?_
 refine Zo (AW rfl rfl rfl) ?_
 refine Zm ?_
 refine Seq.split 32 rfl (fun k5_2 => ?_) (fun k5_2 => ?_)
 ·refine Zm ?_
  refine Zo (AW rfl rfl rfl) ?_
  refine Zt ?_
  refine Zm ?_
  refine Seq.split 36 rfl (fun k5_6 => ?_) (fun k5_6 => ?_)
  ·refine Zm ?_
   refine Zo (AW rfl rfl rfl) ?_
   refine Zt ?_
   refine Zm ?_
   refine Seq.split 40 rfl (fun k5_10 => ?_) (fun k5_10 => ?_)
   ·refine Zm ?_
    refine Zo (AW rfl rfl rfl) ?_
    refine Zt ?_
    refine Za ?_
    refine Zx <| DC.ret ?_
    refine Fin.weak (E' := [(0, _)]) ⟨rfl, trivial⟩ .nil ?_
    refine Zh ?_
    exact ⟨rfl, rfl⟩
   exact absurd k5_10 (by decide)
  exact absurd k5_6 (by decide)
 exact absurd k5_2 (by decide)
open Classical
section
variable {P : Program} {w0 : World} {K : List Nat} {n : Nat} {ds : List Deferred} {E : Env} {L : List Chunk} {o : Oper} {x : Operand}
/-- What []byte of a string leaves. -/
def strC (bs : List UInt8) (v : Value) (M : List Chunk) : Prop := ∃ g sp cap, v = .slice (some ⟨g, 0, none⟩) bs.length cap ∧ M = [fro g 5 (byc bs ++ sp).toArray] ∧ bs.length ≤ cap ∧ cap ≤ 9223372036854775807
theorem Ot {bs : List UInt8} (v : Value) (M : List Chunk) (h : strC bs v M) : idsOf M ≠ [] := by
 obtain ⟨g, sp, cap, _, rfl, _⟩ := h
 simp [idsOf, fro]
/-- []byte of a string: new memory. -/
theorem Fw {src dst e : Nat} {bs : List UInt8} (ho : o.op = .convert src dst x) (hx : ev n E x = some (str bs)) (hs : P.underlying src = some .string) (hd : P.underlying dst = some (.slice e)) (he : P.underlying e = some (.int .u8)) (hfit : bs.length ≤ 140737488355328) :
  Rel P w0 K n ds E L o (fun v M => ∃ g sp cap, v = .slice (some ⟨g, 0, none⟩) bs.length cap ∧ M = [fro g e (byc bs ++ sp).toArray] ∧ bs.length ≤ cap ∧ cap ≤ 9223372036854775807) := by
 intro a w ha hw
 have hrun := run_bytes_of_string (P := P) w src dst e ⟨bs.toArray⟩ hs hd he
 rw [IY] at hrun
 unfold RunsTo
 have h2 : (execOp a.eval o).run P w = .ok (.value (.slice (some ⟨w.heap.size, 0, none⟩) bs.length (grownCap w bs.length 0 e))) (w.drew.alloc (.cells (bytesRow ⟨bs.toArray⟩ (grownCap w bs.length 0 e)) e ((bytesRow ⟨bs.toArray⟩ (grownCap w bs.length 0 e)).size, (bytesRow ⟨bs.toArray⟩ (grownCap w bs.length 0 e)).size + 1))) := by
  simp [execOp, ho, ha.ev hx, str, hrun]
 rw [h2]
 have hge := grownCap_ge w bs.length 0 e
 have hle := grownCap_le_maxLen w bs.length 0 e (by simp only [maxLen]; omega)
 refine ⟨_, ⟨w.heap.size, List.replicate (grownCap w bs.length 0 e - bs.length) (.int .u8 0), _, rfl, rfl, hge, by simp only [maxLen] at hle; omega⟩, ?_⟩
 have hd := (Own.start w []).drew
 refine Own.add hd (L' := [fro _ _ _]) ?_
 refine ⟨rfl, rfl, rfl, Lo.refl _, by simp, fun k hk _ => ?_, by simp [fro], fun g hg => ?_, fun g hg => ?_, fun c hc => ?_⟩
 ·show (w.heap.push _)[k]? = w.heap[k]?
  rw [Array.getElem?_push, if_neg (by have : k < w.heap.size := hk; omega)]
 ·simp [fro] at hg; subst hg; exact .inr (Nat.le_refl _)
 ·simp [fro] at hg; subst hg; simp
 simp at hc; subst hc
 refine ⟨((bytesRow ⟨bs.toArray⟩ (grownCap w bs.length 0 e)).size, (bytesRow ⟨bs.toArray⟩ (grownCap w bs.length 0 e)).size + 1), ?_⟩
 show (w.heap.push _)[w.heap.size]? = _
 simp [bytesRow, byc, Lib.byteCells, IY]
end
theorem LN {N : Int} {es cs : List Pr} {pl : Bool} {ls : List (List Int)} (h : ¬ Vld N es ∨ ¬ TextOk pl ls cs) : chkF N es pl ls cs ≠ 0 := by
 unfold chkF
 by_cases h1 : Vld N es
 ·rw [if_neg (by simpa using h1), if_pos (h.resolve_left (by simpa using h1))]; omega
 rw [if_pos h1]; omega
theorem KS {N e : Int} {es cs : List Pr} {pl : Bool} {ls : List (List Int)} (hV : Vld N es) (hm : es.length ≤ 2097152) (hl : (gtext N es).length ≤ 16777216) (hT : TextOk pl ls cs) (h : BytesR (gtext N es) (certB pl ls cs) e) : e = chkF N es pl ls cs := by
 have hR : ReadR (gtext N es) N es := ⟨N, es, L7 hV hm hl, .inl ⟨rfl, Ml hV⟩⟩
 have hc := KR hT
 exact h.uniq (.inr ⟨N, es, hR, .inr ⟨pl, ls, cs, hc, rfl⟩⟩)
theorem LText_calls {N : Int} {es cs : List Pr} {pl : Bool} {ls : List (List Int)} {va v u : Value} {w : World} (hg : PrV w va es) (hv : LsV w v ls) (hu : PrV w u cs) (hp : Pow w) (hn : ls.length ≤ 1000000000) (hs : ∀ l, l ∈ ls → l.length ≤ 2097152) :
  Calls Tryz.prog 7 #[.agg #[.int .i64 N, va], .agg #[.bool pl, v, u]] w (Ret w [] fun r M => r = .bool true) := by
 have hel : es.length ≤ 8796093021952 := by obtain ⟨_, _, _, _, _, _, h⟩ := hg; exact h
 have hs9 : ∀ l, l ∈ ls → l.length ≤ 1000000000 := fun l hl => by have := hs l hl; omega
 have hg0 := hg
 have hv0 := hv
 have hu0 := hu
 obtain ⟨A, cap, rfl, _⟩ := hg0
 obtain ⟨Al, cl, rfl, _⟩ := hv0
 obtain ⟨Ac, cc, rfl, _⟩ := hu0
 refine Ao (K := []) (args := [_, _]) (L := []) Tryz.func7 rfl Tryz.ntmps7 rfl (Own.start _ _) ?_
 refine Zs ?_
 refine Zw (AX rfl rfl rfl) fun g2 => ?_
 refine Zw (AX rfl rfl rfl) fun g3 => ?_
 refine Za ?_
 refine Zx <| DC.seq <| Zs ?_
 refine Seq.rel0 rfl rfl (Am en9 rfl rfl rfl (fun w hw => II (hp.keep0 hw))) ?_
 rintro _ rfl
 refine Zo (Bb rfl rfl) ?_
 refine Zx ?_
 refine Zd (fun c1 => ?_) fun c1 => ?_
 ·simp at c1
 refine DC.skip <| Fin.then <| Zs ?_
 refine Zu (Aq (vs := [_, _]) rfl rfl Bs Bd rfl (Ai rfl)) ?_
 refine Seq.rel rfl rfl (Am PF rfl rfl rfl (fun w hw => En (hg.keep0 hw))) ?_
 rintro _ _ ⟨A13, c13, rfl, rfl⟩
 refine Seq.rel0 rfl rfl (Am en23 rfl rfl rfl (fun w hw => IR (BZ hw 0 rfl hel) (hp.keep0 hw))) ?_
 rintro _ ⟨s14, e14, rfl, h14⟩
 refine Zm ?_
 iterate 2 refine Ze ?_
 iterate 2 refine Za ?_
 refine Seq.nil ?_
 refine Fin.weak (E' := [(2, .pointer (some ⟨g2, 0, none⟩)), (3, .pointer (some ⟨g3, 0, none⟩)), (5, str s14), (6, .int .i64 e14)]) ⟨rfl, rfl, rfl, rfl, trivial⟩ (L' := [blk g3 27 #[.bool pl, .slice Al ls.length cl, .slice Ac cs.length cc], blk g2 24 #[.int .i64 N, .slice A es.length cap]]) (.cons 1 rfl (.cons 1 rfl .nil)) ?_
 refine Fin.then <| Zs ?_
 refine Zu (Aq (vs := [_, _, _]) rfl rfl B7 BA rfl (Ai rfl)) ?_
 refine Seq.rel rfl rfl (Am PE rfl rfl rfl (fun w hw => Eo (hv.keep0 hw) (hu.keep0 hw) hn hs9)) ?_
 rintro _ _ ⟨Av, lv, cv, Au, lu, cu, c19, rfl, rfl, hcc⟩
 refine Seq.rel0 rfl rfl (Am Qp rfl rfl rfl (fun w hw => FE (hcc _ _ _ _ 0 hw rfl).1 (hcc _ _ _ _ 0 hw rfl).2 (hp.keep0 hw) (Pe hs))) ?_
 rintro _ ⟨s20, e20, rfl, h20⟩
 refine Zm ?_
 iterate 2 refine Ze ?_
 iterate 2 refine Za ?_
 refine Seq.nil ?_
 refine Fin.weak (E' := [(2, .pointer (some ⟨g2, 0, none⟩)), (3, .pointer (some ⟨g3, 0, none⟩)), (5, str s14), (6, .int .i64 e14), (7, str s20), (8, .int .i64 e20)]) ⟨rfl, rfl, rfl, rfl, rfl, rfl, trivial⟩ (L' := [blk g3 27 #[.bool pl, .slice Al ls.length cl, .slice Ac cs.length cc], blk g2 24 #[.int .i64 N, .slice A es.length cap]]) (.cons 1 rfl (.cons 1 rfl .nil)) ?_
 refine Fin.then <| DC.seq ?_
 refine DC.cut (ι := Unit) (fun _ => True) (fun _ => [(2, .pointer (some ⟨g2, 0, none⟩)), (3, .pointer (some ⟨g3, 0, none⟩)), (5, str s14), (6, .int .i64 e14), (7, str s20), (8, .int .i64 e20), (28, .bool (decide (e14 ≠ 0 ∨ e20 ≠ 0)))]) (fun _ => [blk g3 27 #[.bool pl, .slice Al ls.length cl, .slice Ac cs.length cc], blk g2 24 #[.int .i64 N, .slice A es.length cap]]) ?first5 ?rest5
 case first5 =>
  refine DC.region ?_
  refine Zm ?_
  refine Zo (BQ rfl rfl rfl) ?_
  refine Zm ?_
  refine Seq.split 25 rfl (fun k5_2 => ?_) (fun k5_2 => ?_)
  ·refine Zk ?_
   refine Zk ?_
   refine Zt ?_
   refine Seq.nil ?_
   exact AO () trivial ⟨rfl, rfl, rfl, rfl, rfl, rfl, by
    have h := k5_2
    simp at h
    first
    | (show some (Value.bool true) = _; simp [h])
    | (show some (Value.bool (decide (e20 ≠ 0))) = _; simp [h]), trivial⟩ (Pick.all _)
  refine Zm ?_
  refine Zo (BQ rfl rfl rfl) ?_
  refine Zg ?_
  refine Seq.nil ?_
  exact AO () trivial ⟨rfl, rfl, rfl, rfl, rfl, rfl, by
   have h := k5_2
   simp at h
   first
   | (show some (Value.bool true) = _; simp [h])
   | (show some (Value.bool (decide (e20 ≠ 0))) = _; simp [h]), trivial⟩ (Pick.all _)
 rintro ⟨⟩ _
 refine Zd (fun c5 => ?_) fun c5 => ?_
 ·have hx : chkF N es pl ls cs ≠ 0 ∨ e14 = 141 := by
   rcases h14 with ⟨h1, _⟩ | ⟨_, h1⟩ | h1
   ·refine .inl (LN (.inr fun ht => ?_))
    rcases h20 with ⟨h2, _⟩ | ⟨_, h2, _⟩ | ⟨_, _, h2, _⟩
    ·simp [h1, h2] at c5
    ·exact h2 ht.1
    have := ht.2; omega
   ·exact .inl (LN (.inl h1))
   exact .inr h1
  refine DC.seq ?_
  refine AC (cl := [.v, .r, .v, .r, .r, .q, .q, .q, .q, .q, .q]) (A := [0, 1, 0, 7, 15, 31, 63, 127, 255, 511, 1023]) (order := [0, 1, 2, 3, 4, 5, 6, 7, 8, 9, 10]) [] mixed (by kernel_rfl) (fun w hw => hw.pick .nil) ?_
  refine Ar rfl rfl rfl rfl (Aq (vs := [_, _]) rfl rfl Bs Bd rfl (Ai rfl)) ?_
  refine BK rfl rfl rfl rfl (Am PF rfl rfl rfl (fun w hw => En (hg.keep0 hw))) ?_
  rintro _ _ ⟨A30, c30, rfl, rfl⟩
  refine Ar rfl rfl rfl rfl (Aq (vs := [_, _, _]) rfl rfl B7 BA rfl (Ai rfl)) ?_
  refine BK rfl rfl rfl rfl (Am PE rfl rfl rfl (fun w hw => Eo (hv.keep0 hw) (hu.keep0 hw) hn hs9)) ?_
  rintro _ _ ⟨Av2, lv2, cv2, Au2, lu2, cu2, c32, rfl, rfl, hcc2⟩
  refine CW (V := [c32, slc (.slice A30 es.length c30) 43 2 (prs es), blk g3 27 #[.bool pl, .slice Al ls.length cl, .slice Ac cs.length cc], blk g2 24 #[.int .i64 N, .slice A es.length cap]]) rfl rfl rfl rfl (by kernel_rfl) (Am My rfl rfl rfl (fun w hw => Cf (BZ hw 1 rfl hel) (hcc2 _ _ _ _ 0 hw rfl).1 (hcc2 _ _ _ _ 0 hw rfl).2 (hp.keep0 hw) (Pe hs))) ?_
  rintro _ rfl
  refine Yo rfl (BQ rfl rfl rfl) ?_
  refine Ym ?_
  refine Flow.split 35 rfl (fun k6_6 => ?_) (fun k6_6 => ?_)
  ·refine Yk ?_
   refine Yk ?_
   refine Yo rfl (A7 rfl rfl rfl) ?_
   refine Yo rfl (AF rfl rfl) ?_
   refine Flow.end rfl ?_
   simp only [zq, zr]
   refine Fin.then <| DC.ret <| Aa ?_
   refine Zh ?_
   rfl
  refine Ym ?_
  refine Yo rfl (AW rfl rfl rfl) ?_
  refine Yo rfl (Bc rfl rfl rfl) ?_
  refine Yo rfl (AF rfl rfl) ?_
  refine Flow.end rfl ?_
  simp only [zq, zr]
  refine Fin.then <| DC.ret <| Aa ?_
  refine Zh ?_
  first
  | rfl
  | (have h := k6_6; simp at h; simp [hx.resolve_left (by simpa using h)])
 have hz : e14 = 0 ∧ e20 = 0 := by
  have h := c5
  simp at h
  exact h
 obtain ⟨hV, hm, htl, rfl⟩ : Vld N es ∧ es.length ≤ 2097152 ∧ (gtext N es).length ≤ 16777216 ∧ s14 = gtext N es := by
  rcases h14 with ⟨_, h1⟩ | ⟨h1, _⟩ | h1
  ·exact h1
  ·omega
  omega
 obtain ⟨hT, rfl⟩ : TextOk pl ls cs ∧ s20 = certB pl ls cs := by
  rcases h20 with ⟨_, h1, h2, h3⟩ | ⟨h1, _⟩ | ⟨h1, _⟩
  ·exact ⟨⟨h1, h2⟩, h3⟩
  ·omega
  omega
 have htc := hT.2
 refine DC.skip <| Fin.then <| DC.seq ?_
 refine AC (cl := [.q, .r, .q, .c (strC (certB pl ls cs)), .r, .v, .r, .v, .r, .r, .q, .q]) (A := [0, 1, 0, 4, 15, 0, 63, 0, 255, 511, 1023, 2047]) (order := [0, 1, 2, 3, 4, 5, 6, 7, 8, 9, 10, 11]) [] mixed (by kernel_rfl) (fun w hw => hw.pick .nil) ?_
 refine Ym ?_
 refine BK rfl rfl rfl rfl (Fw (bs := gtext N es) rfl rfl Tryz.underlying9 Rv Tryz.underlying5 (by omega)) ?_
 rintro _ _ ⟨g40, sp40, c40, rfl, rfl, h40, h40'⟩
 refine Ym ?_
 refine K4 rfl (C := strC (certB pl ls cs)) rfl rfl rfl rfl Ot (Fw (bs := certB pl ls cs) rfl rfl Tryz.underlying9 Rv Tryz.underlying5 (by omega)) ?_
 rintro _ _ ⟨g42, sp42, c42, rfl, rfl, h42, h42'⟩
 refine CW (V := [fro g42 5 (byc (certB pl ls cs) ++ sp42).toArray, fro g40 5 (byc (gtext N es) ++ sp40).toArray, blk g3 27 #[.bool pl, .slice Al ls.length cl, .slice Ac cs.length cc], blk g2 24 #[.int .i64 N, .slice A es.length cap]]) rfl rfl rfl rfl (by kernel_rfl) (Am Qz rfl rfl rfl (fun w hw => Iv (Iw hw 1 rfl h40 h40') (Iw hw 0 rfl h42 h42') (hp.keep0 hw))) ?_
 rintro _ ⟨e43, rfl, he43⟩
 have hx := KS hV hm htl hT he43
 refine Ar rfl rfl rfl rfl (Aq (vs := [_, _]) rfl rfl Bs Bd rfl (Ai rfl)) ?_
 refine BK rfl rfl rfl rfl (Am PF rfl rfl rfl (fun w hw => En (hg.keep0 hw))) ?_
 rintro _ _ ⟨A45, c45, rfl, rfl⟩
 refine Ar rfl rfl rfl rfl (Aq (vs := [_, _, _]) rfl rfl B7 BA rfl (Ai rfl)) ?_
 refine BK rfl rfl rfl rfl (Am PE rfl rfl rfl (fun w hw => Eo (hv.keep0 hw) (hu.keep0 hw) hn hs9)) ?_
 rintro _ _ ⟨Av3, lv3, cv3, Au3, lu3, cu3, c47, rfl, rfl, hcc3⟩
 refine CW (V := [c47, slc (.slice A45 es.length c45) 43 2 (prs es), fro g42 5 (byc (certB pl ls cs) ++ sp42).toArray, fro g40 5 (byc (gtext N es) ++ sp40).toArray, blk g3 27 #[.bool pl, .slice Al ls.length cl, .slice Ac cs.length cc], blk g2 24 #[.int .i64 N, .slice A es.length cap]]) rfl rfl rfl rfl (by kernel_rfl) (Am My rfl rfl rfl (fun w hw => Cf (BZ hw 1 rfl hel) (hcc3 _ _ _ _ 0 hw rfl).1 (hcc3 _ _ _ _ 0 hw rfl).2 (hp.keep0 hw) (Pe hs))) ?_
 rintro _ rfl
 refine Yo rfl (AW rfl rfl rfl) ?_
 refine Yo rfl (AF rfl rfl) ?_
 refine Flow.end rfl ?_
 simp only [zq, zr]
 refine Fin.then <| DC.ret ?_
 refine Zh ?_
 simp [hx]
end Go.Fl

namespace Go.Fl
open Go Go.ChangeShapes Go.WideShapes Go.Deep
section
variable {H : Type} {enc : TypeId × Value → H} {P : Program} {W : World} {held : Bool}
def Light (P : Program) (t : TypeId) (d : DataW H) : Prop := ∀ n ∈ d.weights P t, n ≤ reachBytes
theorem OA {t e : TypeId} {f0 f1 : Field} {n : Nat} {v : Value} {y : DataW H × List MemPlace} (ht : P.underlying t = some (.slice e)) (he : P.underlying e = some (.struct #[f0, f1])) (ce : P.cellsOf e = 2) (o0 : f0.offset = 0) (o1 : f1.offset = 1)
  (c0 : P.cellsOf f0.type = 1) (c1 : P.cellsOf f1.type = 1) (i0 : P.underlying f0.type = some (.int .i64)) (i1 : P.underlying f1.type = some (.int .i64)) (hb : P.bytesOf e = 16)
  (h : DataW.trod enc P W 0 (fun _ => true) held n t [v] = some y) (hw : Light P t y.1) : ∃ es, PrV W v es ∧ ∀ x ∈ es, (Lit.int .i64 x.1).wf = true ∧ (Lit.int .i64 x.2).wf = true := by
 rcases open_slice_pairs ht he ce o0 o1 c0 c1 h with ⟨h1, h2⟩ | ⟨a, len, cap, m, n', V0, V1, D0, D1, P0, P1, h1, h2, h3, h4, h5, h6, h7⟩
 ·cases h1
  exact ⟨[], ⟨none, 0, rfl, fun j u hj => by simp [prs] at hj, Nat.le_refl _, by omega, by simp⟩, by simp⟩
 cases h1
 simp only [if_true] at h5
 subst h5 h6
 have hwt : (len + (m - len)) * 16 ≤ reachBytes := hw _ (by simp [DataW.weights, ht, hb])
 have hr : reachBytes = 140737488351232 := by decide
 simp only [maxLen] at h4
 have hV : ∀ i, i < len → ∃ q : Pr, W.cell? (a.add (i * 2)) = some (.int .i64 q.1) ∧ W.cell? (a.add (i * 2 + 1)) = some (.int .i64 q.2) ∧ (Lit.int .i64 q.1).wf = true ∧ (Lit.int .i64 q.2).wf = true := by
  intro i hi
  obtain ⟨k0, k1, k2, k3⟩ := h7 i (by omega)
  obtain ⟨x, hx, _, hxw⟩ := DataW.trod_int i0 k2
  obtain ⟨z, hz, _, hzw⟩ := DataW.trod_int i1 k3
  rw [(List.cons.inj hx).1] at k0
  rw [(List.cons.inj hz).1] at k1
  exact ⟨(x, z), k0, k1, hxw, hzw⟩
 obtain ⟨q, hq⟩ := choose_lt hV
 have hl : ((List.range len).map q).length = len := by simp
 have hg : ∀ (es : List Pr) (i : Nat) (u : Value), (prs es)[i]? = some u → ∃ p : Pr, es[i / 2]? = some p ∧ u = .int .i64 (if i % 2 = 0 then p.1 else p.2) := by
  intro es
  induction es with
  | nil => intro i u h; simp [prs] at h
  | cons e r ih =>
   intro i u h
   match i, h with
   | 0, h => simp [prs] at h; exact ⟨e, by simp, by simp [h]⟩
   | 1, h => simp [prs] at h; exact ⟨e, by simp, by simp [h]⟩
   | i + 2, h =>
    simp only [prs, List.getElem?_cons_succ] at h
    obtain ⟨p, hp, hu⟩ := ih i u h
    refine ⟨p, by rw [show (i + 2) / 2 = i / 2 + 1 by omega, List.getElem?_cons_succ]; exact hp, by rw [hu]; congr 1; rw [show (i + 2) % 2 = i % 2 by omega]⟩
 refine ⟨(List.range len).map q, ⟨some a, m, by rw [hl], fun j u hj => ⟨a, rfl, ?_⟩, by rw [hl]; omega, by omega, by rw [hl]; omega⟩, fun x hx => ?_⟩
 ·obtain ⟨p, hp, hu⟩ := hg _ _ _ hj
  have hj2 := (Q9.1 hp).1
  simp only [hl] at hj2
  obtain ⟨g0, g1, _, _⟩ := hq (j / 2) hj2
  rw [List.getElem?_map, List.getElem?_range hj2] at hp
  simp only [Option.map_some, Option.some.injEq] at hp
  subst hp hu
  by_cases hm : j % 2 = 0
  ·rw [if_pos hm, ← g0]; congr 2; omega
  rw [if_neg hm, ← g1]; congr 2; omega
 simp only [List.mem_map, Rn] at hx
 obtain ⟨i, hi, rfl⟩ := hx
 exact (hq i hi).2.2
theorem Hx {t : TypeId} {fs : Array Field} {parts : List (DataW H)} (ht : P.underlying t = some (.struct fs)) (h : Light P t (.agg parts)) : ∀ n ∈ DataW.weightsEach P (fs.toList.map (·.type)) parts, n ≤ reachBytes := by
 intro n hn
 exact h n (by simp only [DataW.weights, ht]; exact hn)
theorem light_cons {t : TypeId} {ts : List TypeId} {d : DataW H} {r : List (DataW H)} (h : ∀ n ∈ DataW.weightsEach P (t :: ts) (d :: r), n ≤ reachBytes) : Light P t d ∧ ∀ n ∈ DataW.weightsEach P ts r, n ≤ reachBytes :=
 ⟨fun n hn => h n (by simp only [DataW.weightsEach, List.mem_append]; exact .inl hn), fun n hn => h n (by simp only [DataW.weightsEach, List.mem_append]; exact .inr hn)⟩
theorem light_all {ts : List TypeId} {ds : List (DataW H)} (h : (DataW.weightsEach P ts ds).all (· ≤ reachBytes) = true) : ∀ n ∈ DataW.weightsEach P ts ds, n ≤ reachBytes :=
 fun n hn => by simpa using List.all_eq_true.1 h n hn
theorem own_belowO {w w' : World} {L : List Chunk} (h : Own w [] w' L) : RowKit.Below w.heap.size w w' := ⟨h.os, h.tape, h.output, h.size, fun k hk => h.old k hk (by simp)⟩
end
end Go.Fl

namespace Go.Fl
open Go Go.Proofs Go.ChangeShapes Go.WideShapes Go.Deep Go.Joins
open Go.Proofs.YthjmapekjggdjaaGreatDoor.Rows
section
variable {H : Type} {enc : TypeId × Value → H} {W : World}
theorem bulk_mem {ds : List (DataW H)} {d : DataW H} (h : d ∈ ds) : uptoBulk d ≤ uptoBulkAll ds := by
 induction ds with
 | nil => cases h
 | cons a r ih =>
  rw [uptoBulkAll]
  rcases List.mem_cons.1 h with rfl | h
  ·omega
  have := ih h; omega
theorem N2 (d : DataW H) : 1 ≤ uptoBulk d := by
 cases d with
 | lit l => cases l <;> simp [uptoBulk]
 | _ => simp [uptoBulk]
theorem JV (ds : List (DataW H)) : ds.length ≤ uptoBulkAll ds := by
 induction ds with
 | nil => simp [uptoBulkAll]
 | cons a r ih => rw [uptoBulkAll, List.length_cons]; have := N2 a; omega
theorem Kr {n B : Nat} {v : Value} {y : DataW H × List MemPlace} (h : DataW.trod enc Tryz.prog W 0 (fun _ => true) true n 44 [v] = some y) (hb : uptoBulk y.1 ≤ B) (hB : B ≤ 1048576) : ∃ xs, SlV W v xs ∧ xs.length ≤ B := by
 rcases open_ints Rt Tryz.underlying3 (by kernel_rfl) h with ⟨h1, h2⟩ | ⟨a, len, cap, zs, h1, h2, h3, h4, h5, h6, h7, h8⟩
 ·cases h1
  exact ⟨[], ⟨none, 0, rfl, fun j u hj => by simp [ints] at hj, Nat.le_refl _, by omega, by simp⟩, by simp⟩
 cases h1
 simp only [if_true] at h5
 subst h6
 have hl := JV (lits (H := H) .i64 (zs.take len))
 have hlen : (zs.take len).length = len := by simp; omega
 have hll : (lits (H := H) .i64 (zs.take len)).length = len := by rw [← hlen]; simp [lits]
 rw [uptoBulk] at hb
 simp only [maxLen] at h4
 refine ⟨zs.take len, ⟨some a, cap, by rw [hlen], fun j u hj => ⟨a, rfl, ?_⟩, by omega, by omega, by omega⟩, by omega⟩
 have hj2 := (Q9.1 hj).1
 simp only [ints_length, hlen] at hj2
 have h9 := h7 j (by omega)
 rw [h9, ← hj]
 simp [ints, List.getElem?_take, hj2, Q8 (show j < zs.length by omega)]
theorem Kq {n B : Nat} {v : Value} {y : DataW H × List MemPlace} (h : DataW.trod enc Tryz.prog W 0 (fun _ => true) true n 25 [v] = some y) (hb : uptoBulk y.1 ≤ B) (hB : B ≤ 1048576) :
  ∃ ls, LsV W v ls ∧ ls.length ≤ B ∧ ∀ l, l ∈ ls → l.length ≤ B := by
 rcases open_slice Rw h with ⟨h1, h2⟩ | ⟨a, len, cap, m, k, D, Pl, h1, h2, h3, h4, h5, h6, h7⟩
 ·cases h1
  exact ⟨[], ⟨none, 0, rfl, fun i l hi => by simp at hi, Nat.le_refl _, by omega, by simp⟩, by simp, by simp⟩
 cases h1
 simp only [if_true] at h5
 subst h5 h6
 simp only [maxLen] at h4
 rw [uptoBulk] at hb
 have hl := JV ((List.range len).map D)
 rw [List.length_map, List.length_range] at hl
 have hce : Tryz.prog.cellsOf 44 = 1 := by kernel_rfl
 have hV : ∀ i, i < len → ∃ q : Value × List Int, W.cell? (a.add i) = some q.1 ∧ SlV W q.1 q.2 ∧ q.2.length ≤ B := by
  intro i hi
  obtain ⟨cs', k1, k2⟩ := h7 i (by omega)
  rw [hce, Nat.mul_one] at k1
  obtain ⟨_, hlen, hcell⟩ := World.cells?_some k1
  match cs', hlen with
  | [u], _ =>
   have hD : uptoBulk (D i) ≤ B := by
    have := bulk_mem (ds := (List.range len).map D) (d := D i) (List.mem_map.2 ⟨i, Rn.2 hi, rfl⟩)
    omega
   obtain ⟨xs, hx, hxl⟩ := Kr (B := B) k2 hD hB
   have h0 := hcell 0 (by omega)
   refine ⟨(u, xs), ?_, hx, hxl⟩
   have e : (a.add i).add 0 = a.add i := by simp [Addr.add]
   rw [e] at h0
   simpa using h0
 obtain ⟨q, hq⟩ := choose_lt hV
 refine ⟨(List.range len).map fun i => (q i).2, ⟨some a, m, by simp, fun i l hi => ?_, by simp; omega, by omega, by simp; omega⟩, by simp; omega, fun l hl => ?_⟩
 ·have hi2 := (Q9.1 hi).1
  simp only [List.length_map, List.length_range] at hi2
  rw [List.getElem?_map, List.getElem?_range hi2] at hi
  simp only [Option.map_some, Option.some.injEq] at hi
  subst hi
  exact ⟨a, (q i).1, rfl, (hq i hi2).1, (hq i hi2).2.1⟩
 simp only [List.mem_map, Rn] at hl
 obtain ⟨i, hi, rfl⟩ := hl
 exact (hq i hi).2.2
theorem Fz {n : Nat} {v : Value} {y : DataW H × List MemPlace} (h : DataW.trod enc Tryz.prog W 0 (fun _ => true) true n 22 [v] = some y) (hw : Light Tryz.prog 22 y.1) : ∃ es, PrV W v es ∧ ∀ x ∈ es, (Lit.int .i64 x.1).wf = true ∧ (Lit.int .i64 x.2).wf = true :=
 OA Ru Tryz.underlying43 (by kernel_rfl) rfl rfl (by kernel_rfl) (by kernel_rfl) Tryz.underlying3 Tryz.underlying3 (by kernel_rfl) h hw
theorem open_graphB {b : Nat} {v : Value} {d : DataW H} {p : List MemPlace} (hv : Value.okWide Tryz.prog W .any b 24 v) (h : DataW.Trod enc Tryz.prog W 0 (fun _ => true) true 24 v d p) (hw : Light Tryz.prog 24 d) :
  ∃ N va es, v = .agg #[.int .i64 N, va] ∧ PrV W va es ∧ (Lit.int .i64 N).wf = true ∧ ∀ x ∈ es, (Lit.int .i64 x.1).wf = true ∧ (Lit.int .i64 x.2).wf = true := by
 obtain ⟨v0, v1, y0, y1, n, rfl, rfl, rfl, h0, h1⟩ := open_agg2 Tryz.underlying24 (by kernel_rfl) (by kernel_rfl) hv h
 obtain ⟨_, w1⟩ := light_cons (Hx Tryz.underlying24 hw)
 obtain ⟨w1, _⟩ := light_cons w1
 obtain ⟨N, hN, _, hNw⟩ := DataW.trod_int Tryz.underlying3 h0
 obtain ⟨es, hes, hew⟩ := Fz h1 w1
 exact ⟨N, v1, es, by rw [(List.cons.inj hN).1], hes, hNw, hew⟩
theorem open_cert {b : Nat} {v : Value} {d : DataW H} {p : List MemPlace} (hv : Value.okWide Tryz.prog W .any b 27 v) (h : DataW.Trod enc Tryz.prog W 0 (fun _ => true) true 27 v d p) (hw : Light Tryz.prog 27 d) (hb : uptoBulk d ≤ 1048576) :
  ∃ pl ls cs v1 v2, v = .agg #[.bool pl, v1, v2] ∧ LsV W v1 ls ∧ PrV W v2 cs ∧ ls.length ≤ 1048576 ∧ ∀ l, l ∈ ls → l.length ≤ 1048576 := by
 obtain ⟨v0, v1, v2, y0, y1, y2, n, rfl, rfl, rfl, h0, h1, h2⟩ := open_agg3 Tryz.underlying27 (by kernel_rfl) (by kernel_rfl) hv h
 obtain ⟨_, w1⟩ := light_cons (Hx Tryz.underlying27 hw)
 obtain ⟨_, w2⟩ := light_cons w1
 obtain ⟨w2, _⟩ := light_cons w2
 have hb1 : uptoBulk y1.1 ≤ 1048576 := by
  rw [uptoBulk] at hb
  have := bulk_mem (ds := [y0.1, y1.1, y2.1]) (d := y1.1) (by simp)
  omega
 obtain ⟨pl, hp, _⟩ := DataW.trod_bool Tryz.underlying4 h0
 obtain ⟨ls, hls, h3, h4⟩ := Kq h1 hb1 (Nat.le_refl _)
 obtain ⟨cs, hcs, _⟩ := Fz h2 w2
 exact ⟨pl, ls, cs, v1, v2, by rw [(List.cons.inj hp).1], hls, hcs, h3, h4⟩
theorem Qc : laidOutB Tryz.prog = true := by kernel_rfl
theorem staysB {t : TypeId} {v : Value} {d : DataW H} {p : List MemPlace} {W' : World} {L : List Chunk} (hr : Tryz.prog.readableRec t = true) (hrow : t < Tryz.prog.types.size) (h : DataW.Trod enc Tryz.prog W 0 (fun _ => true) true t v d p)
  (hO : Own W [] W' L) (hlt : ∀ x ∈ p, x.block < W.heap.size) : DataW.Trod enc Tryz.prog W' 0 (fun b => decide (b < W.heap.size)) true t v d p :=
 RowKit.Below.trod Qc hr hrow h (own_belowO hO) hlt
end
/-- What the rows list of package-level variables. -/
def laid3 : List (String × DataW Unit) := [("math/bits.deBruijn32tab", laid_math_bits_deBruijn32tab), ("math/bits.deBruijn64tab", laid_math_bits_deBruijn64tab), ("internal/strconv.uint64pow10", laid_internal_strconv_uint64pow10)]
theorem pow_of {W : World} (h : laidMetH Tryz.prog laid3 W) : Pow W := by
 rw [MakeChecks.laidMetH_plain _ _ _ (by kernel_rfl)] at h
 obtain ⟨g, t, cs, fuel, p, hg, ht, hvar, hd⟩ := Lib.laidMet.reads h (n := "internal/strconv.uint64pow10") (d := laid_internal_strconv_uint64pow10) (by simp [laid3])
 obtain rfl := Option.some.inj ((show Tryz.prog.globalNamed "internal/strconv.uint64pow10" = some 1 by kernel_rfl).symm.trans hg)
 obtain rfl := Option.some.inj ((show (Tryz.prog.globals[1]?).map (·.type) = some 265 by kernel_rfl).symm.trans ht)
 unfold Pow Lib.TabIs
 rw [hvar, ← Lib.cells_of_tab (zs := Lib.pow10Tab) Tryz.underlying265 Tryz.underlying221 (by kernel_rfl) (by kernel_rfl) hd]
end Go.Fl

namespace Go.Fl
open Go
section
variable {H : Type} {enc : TypeId × Value → H}
theorem returnsInHanded_of_cond_laid {a : Assume} {C : Checked} {os : Os} {f : FuncId} {fn : Func} {s : OpenSpec} {k : (H : Type) → List (DataW H) → Bool} (hk : s.cond = some k) {F : Stop.Interp} {conds : List PathCond} {apart fresh handsOn again : Bool} {X : World → Prop}
  (hX : ∀ w w' : World, w.heap = w'.heap → X w → X w')
  (own : ownKnob C.prog.godebug = none) (started : os.Started) (noInit : C.prog.inits.idxOf? f = none) (hfn : C.prog.funcs[f]? = some fn)
  (witness : ∃ (w : World) (tape : Tape) (i : Input), w.os = os ∧ (w.forCall tape i).Shaped C.prog ∧ i.vars = [] ∧ Input.okWide C.prog (w.forCall tape i) .any w.heap.size f i ∧
   ((s.pre enc C.prog fn conds apart (w.forCall tape i).memory i.args ∧ X (w.forCall tape i).memory) ∧ sizedMet enc C.prog fn s apart (w.forCall tape i).memory i.args) ∧ a.holds C.prog (lone (Frame.enter C.prog f i.args .normal) [] (w.forCall tape i)))
  (contract : ∀ (W : World) (base : Nat) (args : Array Value) (ds gs : List (DataW H)) (before : List MemPlace),
   (∀ (j : Nat) t v, fn.params[j]? = some t → args[j]? = some v → Value.okWide C.prog W .any base t v) →
   DataW.Whole enc C.prog fn.params.toList s.vars apart W args.toList ds gs before →
   k H (ds ++ gs) = true →
   (DataW.weightsEach C.prog (fn.params.toList ++ s.bare.plain.varTypes C.prog) (ds ++ gs)).all (· ≤ reachBytes) = true → X W →
   Calls C.prog f args W fun e W' => ∃ v, e = .returned v ∧ (s.at F).post enc C.prog fn apart fresh handsOn again W args v W') :
  ReturnsInHanded a C os f .any (fun w args => (s.pre enc C.prog fn conds apart w args ∧ X w) ∧ sizedMet enc C.prog fn s apart w args) ((s.at F).post enc C.prog fn apart fresh handsOn again) := by
 refine returnsInHanded_of_calls own started noInit witness ?_
 intro w tape i _ _ _ hok hpre hholds
 obtain ⟨_, _, _, fn', hfn', _, _, _, _, hval⟩ := hok
 have e : fn' = fn := Option.some.inj (hfn'.symm.trans hfn)
 subst e
 obtain ⟨ds, gs, before, hw, hc, hkk⟩ := (OpenSpec.pre_some hk conds apart _ _).1 hpre.1.1
 have hw' := DataW.Whole.of_heap (w' := w.forCall tape i) (by rfl) hw
 refine (contract (w.forCall tape i) w.heap.size i.args ds gs before hval hw' hkk (hpre.2.weights hw) (hX _ _ (by rfl) hpre.1.2)).mono fun e W' ⟨v, he, hp⟩ => ?_
 subst he
 exact ChangeSpec.post_blind hp
theorem witness_laid {C : Checked} {os : Os} {f : FuncId} {fn : Func} {s : OpenSpec} {k : (H : Type) → List (DataW H) → Bool} (hk : s.cond = some k) {conds : List PathCond} {apart : Bool} {X : World → Prop} (modest : Bool) (w0 : World) (args : Array Value) (fuel : Nat) (hos : w0.os = os)
  (hsh : (w0.forCall (fun _ _ => 0) ⟨#[], args, []⟩).Shaped C.prog)
  (hok : Input.okWideB C.prog (w0.forCall (fun _ _ => 0) ⟨#[], args, []⟩) f ⟨#[], args, []⟩ = true)
  {x : List (DataW H) × List (DataW H) × List MemPlace} (hx : DataW.whole enc C.prog (w0.forCall (fun _ _ => 0) ⟨#[], args, []⟩).memory fn.params.toList s.vars apart args.toList fuel = some x)
  (hconds : conds.all (PathCond.test C.prog ⟨fn.params.toList, x.1, s.bare.plain.varTypes C.prog, x.2.1⟩) = true) (hkk : k H (x.1 ++ x.2.1) = true)
  (hsz : s.bare.sizedB enc C.prog fn apart (w0.forCall (fun _ _ => 0) ⟨#[], args, []⟩).memory args fuel = true)
  (hX : X (w0.forCall (fun _ _ => 0) ⟨#[], args, []⟩).memory) :
  ∃ (w : World) (tape : Tape) (i : Input), w.os = os ∧ (w.forCall tape i).Shaped C.prog ∧ i.vars = [] ∧ Input.okWide C.prog (w.forCall tape i) .any w.heap.size f i ∧
   ((s.pre enc C.prog fn conds apart (w.forCall tape i).memory i.args ∧ X (w.forCall tape i).memory) ∧ sizedMet enc C.prog fn s apart (w.forCall tape i).memory i.args) ∧ ({ modest := modest } : Assume).holds C.prog (lone (Frame.enter C.prog f i.args .normal) [] (w.forCall tape i)) :=
 ⟨w0, fun _ _ => 0, ⟨#[], args, []⟩, hos, hsh, (Input.okWide_of_okWideB (base := 0) hok).1, (Input.okWide_of_okWideB hok).2,
  ⟨⟨(OpenSpec.pre_some hk conds apart _ _).2 ⟨x.1, x.2.1, x.2.2, DataW.Whole_of_whole hx, hconds, hkk⟩, hX⟩, sizedMet_of_sizedB hsz⟩, by
  simp only [Assume.holds]
  exact ⟨by simp, by simp, fun _ => Modest.zero, by simp, by simp⟩⟩
end
end Go.Fl
