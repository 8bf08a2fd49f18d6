/- Part 3 of the proof: the library of the walk and the walks, in build order; no condition. -/
import Derived.Test.YthjmapekjggdjaaGreatDoorZC2
set_option linter.unusedVariables false
set_option linter.unusedSimpArgs false
set_option linter.unusedSectionVars false
set_option maxRecDepth 100000
namespace Go.Fl
open Go Go.Proofs
theorem Is {v e : Int} {x y z : Value} {ga gb gc : Nat} {w : World} (hO : Own w [ga, gb, gc] w [blk ga 131 #[x], blk gb 3 #[y], blk gc 29 #[z]]) :
  CallsD Tryz.prog 105 #[.pointer (some ⟨ga, 0, none⟩), .pointer (some ⟨gb, 0, none⟩), .pointer (some ⟨gc, 0, none⟩)] (.panicking (onePanic (sflt v e))) w
   fun e' u' w' => u' = .panicking [{ v := sflt v e, recovered := true }] ∧ Ret w [ga, gb, gc] (fun r M => M = [blk ga 131 #[.slice none 0 0], blk gb 3 #[.int .i64 v], blk gc 29 #[.int .i64 e]]) e' w' := by
 refine Eg (args := [_, _, _]) Tryz.func105 rfl Tryz.ntmps105 rfl rfl rfl rfl rfl rfl rfl rfl (.some _ []) hO ?_
 refine Zs ?_
 refine Zm ?_
 refine Zo (Nc (b := true) rfl rfl rfl (fun w => by kernel_rfl)) ?_
 refine Zx ?_
 refine AI rfl ?_
 refine Zs ?_
 refine Zm ?_
 refine Zo (C4 (v := .tuple #[.agg #[.int .i64 v, .int .i64 e], .bool true]) rfl rfl (fun w => by kernel_rfl)) ?_
 refine Zm ?_
 iterate 2 refine Ze ?_
 refine Zw (AD rfl R8 rfl) fun g4 => ?_
 refine Zy (At (cs' := #[_, _]) rfl rfl rfl Si rfl (TB rfl) rfl) ?_
 refine Za ?_
 refine Zx <| DC.seq <| Zs ?_
 refine Zm ?_
 refine Zo (Bd rfl rfl) ?_
 refine Zx ?_
 refine AT rfl ?_
 refine DC.skip <| Fin.then ?_
 refine AF (cl := [.q, .q, .q, .q, .g, .g, .g]) (A := [0, 1, 0, 4, 0, 19, 63]) (order := [0, 1, 2, 3, 4, 5, 6]) ([blk g4 172 #[.int .i64 v, .int .i64 e]]) mixed (by kernel_rfl) (fun w hw => hw.pick (.cons 0 rfl .nil)) ?_
 refine Yf QW ?_
 refine Flow.old rfl rfl rfl (Ai rfl rfl AJ (BJ rfl)) ?_
 refine Yf QV ?_
 refine Flow.old rfl rfl rfl (Ai rfl rfl F6 (BJ rfl)) ?_
 refine AS rfl rfl rfl rfl (AE (cs' := #[_]) rfl rfl rfl ON rfl (TB rfl) rfl) (fun w hw => hw.pick (.cons 0 rfl .nil)) ?_
 refine AS rfl rfl rfl rfl (AE (cs' := #[_]) rfl rfl rfl AQ rfl (TB rfl) rfl) (fun w hw => hw.pick (.cons 0 rfl .nil)) ?_
 refine AS rfl rfl rfl rfl (AE (cs' := #[_]) rfl rfl rfl Qu rfl (TB rfl) rfl) (fun w hw => hw.pick (.cons 0 rfl .nil)) ?_
 refine Flow.end rfl ?_
 simp only [zq, zr]
 refine Fin.weak (E' := []) trivial (.cons 1 rfl (.cons 1 rfl (.cons 1 rfl .nil))) ?_
 refine Cb (.inr rfl) rfl ?_
 rfl
theorem Iu {x y z : Value} {ga gb gc : Nat} {w : World} (hO : Own w [ga, gb, gc] w [blk ga 131 #[x], blk gb 3 #[y], blk gc 29 #[z]]) :
  CallsD Tryz.prog 105 #[.pointer (some ⟨ga, 0, none⟩), .pointer (some ⟨gb, 0, none⟩), .pointer (some ⟨gc, 0, none⟩)] .returning w
   fun e' u' w' => u' = .returning ∧ Ret w [ga, gb, gc] (fun r M => M = [blk ga 131 #[x], blk gb 3 #[y], blk gc 29 #[z]]) e' w' := by
 refine Eg (args := [_, _, _]) Tryz.func105 rfl Tryz.ntmps105 rfl rfl rfl rfl rfl rfl rfl rfl .none hO ?_
 refine Zs ?_
 refine Zm ?_
 refine Zo (KT (b := false) rfl rfl (fun w => by kernel_rfl)) ?_
 refine Zx ?_
 refine AT rfl ?_
 refine DC.skip ?_
 refine Cb (.inr rfl) rfl ?_
 rfl
theorem Sl {w0 w : World} {K : List Nat} {ga gb gc t t' t'' : Nat} {x y z : Array Value} {F : List Chunk} (h : Own w0 K w (blk ga t x :: blk gb t' y :: blk gc t'' z :: F)) : Own w [ga, gb, gc] w [blk ga t x, blk gb t' y, blk gc t'' z] :=
 (h.sub (L' := [blk ga t x, blk gb t' y, blk gc t'' z]) (by simp)).self
/-- What nums.Scan answers. -/
def ScanR (bs : List UInt8) (r : Value) (M : List Chunk) : Prop :=
 (∃ tk vt, scanA bs = .ok tk ∧ tk.length ≤ 33554433 ∧ r = .tuple #[vt, .int .i64 0, .int .i64 0] ∧ M = [slc vt 138 4 (tks tk)]) ∨
 (∃ a e, scanA bs = .bad a e ∧ r = .tuple #[.slice none 0 0, .int .i64 a, .int .i64 e] ∧ M = [])
theorem MO {vb : Value} {bs : List UInt8} {w : World} (hB : ByV w vb bs) :
  Calls Tryz.prog 72 #[vb] w (Ret w [] (ScanR bs)) := by
 have ho : ByO vb bs [] := fun _ _ _ _ _ h => by simp at h
 obtain ⟨A, cb, hvb⟩ := hB.len
 subst hvb
 refine Jk (K := []) (args := [_]) (L := []) Tryz.func72 rfl Tryz.ntmps72 rfl (Own.start _ _) ?_
 refine Zs ?_
 refine Zw (AD rfl Sa rfl) fun g2 => ?_
 refine Zw (AD rfl B0 rfl) fun g3 => ?_
 refine Zw (AD rfl R4 rfl) fun g4 => ?_
 refine Zx <| Zs ?_
 refine Zo (Gh rfl rfl rfl) ?_
 refine Seq.defer rfl rfl rfl rfl ?_
 refine Zx <| Zs ?_
 refine Zm ?_
 refine Zo (AA (cs := #[_, _, _]) rfl rfl Tt rfl rfl) ?_
 refine Zw (Ba rfl rfl rfl) fun g9 => ?_
 refine Za ?_
 refine Zx <| DC.seq ?_
 refine DC.own (fun w hw => AX (t := 138) (m := 4) hw) ?_
 refine DC.region ?_
 refine Zm ?_
 refine DQ rfl rfl Tj rfl rfl rfl (Lc := scL g9 (.slice A bs.length cb) (.slice none 0 0) 0 []) (F := [blk g4 29 #[.int .i64 0], blk g3 3 #[.int .i64 0], blk g2 131 #[.slice none 0 0]]) (.swap _ _ _) (fun k hk => hk) (fun w hw => L8 (hw.pick (L' := scL g9 (.slice A bs.length cb) (.slice none 0 0) 0 []) (.cons 1 rfl (.cons 0 rfl .nil))).self (hB.keep ho hw) (ByO.step hB ho (hw.pick (L' := scL g9 (.slice A bs.length cb) (.slice none 0 0) 0 []) (.cons 1 rfl (.cons 0 rfl .nil))))) ?_ ?_
 ·rintro pv M ⟨a, e, rfl, hsc⟩
  refine Az <| ?_
  refine Io ?_
  refine Fin.leaves (f := 105) (cap := [.pointer (some ⟨g2, 0, none⟩), .pointer (some ⟨g3, 0, none⟩), .pointer (some ⟨g4, 0, none⟩)]) (Lc := [blk g2 131 #[.slice none 0 0], blk g3 3 #[.int .i64 0], blk g4 29 #[.int .i64 0]]) (F := M) Rs (by simp) rfl
   ((TR (l₁ := M)).trans (List.Perm.append_right M (List.reverse_perm [blk g2 131 #[.slice none 0 0], blk g3 3 #[.int .i64 0], blk g4 29 #[.int .i64 0]]))) (fun k hk => by simpa [blk] using hk) (fun w' hw => Is (Sl (hw.perm ((TR (l₁ := M)).trans (List.Perm.append_right M (List.reverse_perm [blk g2 131 #[.slice none 0 0], blk g3 3 #[.int .i64 0], blk g4 29 #[.int .i64 0]]))).symm))) ?_
  rintro r L' rfl a' w' ha hw
  have e2 : a'.tmps.getD 2 undef = .pointer (some ⟨g2, 0, none⟩) := by have := ha.ev (x := .tmp 2) (v := .pointer (some ⟨g2, 0, none⟩)) rfl; simpa only [Act.eval] using this
  have e3 : a'.tmps.getD 3 undef = .pointer (some ⟨g3, 0, none⟩) := by have := ha.ev (x := .tmp 3) (v := .pointer (some ⟨g3, 0, none⟩)) rfl; simpa only [Act.eval] using this
  have e4 : a'.tmps.getD 4 undef = .pointer (some ⟨g4, 0, none⟩) := by have := ha.ev (x := .tmp 4) (v := .pointer (some ⟨g4, 0, none⟩)) rfl; simpa only [Act.eval] using this
  exact ⟨_, IT rfl e2 e3 e4 (Ci (hw.holds (blk g2 131 #[.slice none 0 0]) (by simp)) NI rfl) (Ci (hw.holds (blk g3 3 #[.int .i64 a]) (by simp)) AJ rfl) (Ci (hw.holds (blk g4 29 #[.int .i64 e]) (by simp)) F6 rfl),
   _, [], rfl, .inr ⟨a, e, hsc, rfl, rfl⟩, hw.sub (by simp)⟩
 rintro _ _ ⟨rfl, vt', j, tk', rfl, hsc, htl⟩
 unfold scL
 simp only [zs]
 refine Zx <| DC.seq ?_
 refine DC.shape 1 rfl ?_
 rintro ⟨A5, l5, c5, rfl⟩
 refine DC.region ?_
 refine Zm ?_
 refine Zo (AH rfl rfl) ?_
 refine Zf J2 ?_
 refine Zl NI ?_
 refine Zy (AE (cs' := #[_]) rfl rfl rfl ON rfl (TB rfl) rfl) ?_
 refine Zy (AE (cs' := #[_]) rfl rfl rfl AQ rfl (TB rfl) rfl) ?_
 refine Zy (AE (cs' := #[_]) rfl rfl rfl Qu rfl (TB rfl) rfl) ?_
 refine Zx <| DC.ret ?_
 refine LT ?_
 refine Fin.leaves (f := 105) (cap := [.pointer (some ⟨g2, 0, none⟩), .pointer (some ⟨g3, 0, none⟩), .pointer (some ⟨g4, 0, none⟩)]) (Lc := [blk g2 131 #[.slice A5 l5 c5], blk g3 3 #[.int .i64 0], blk g4 29 #[.int .i64 0]]) (F := [slc (.slice A5 l5 c5) 138 4 (tks tk'), blk g9 176 #[.slice A bs.length cb, .int .i64 j, (.slice A5 l5 c5)]]) Rs (by simp) rfl
  (List.reverse_perm [blk g2 131 #[.slice A5 l5 c5], blk g3 3 #[.int .i64 0], blk g4 29 #[.int .i64 0], slc (.slice A5 l5 c5) 138 4 (tks tk'), blk g9 176 #[.slice A bs.length cb, .int .i64 j, (.slice A5 l5 c5)]]) (fun k hk => by simpa [blk] using hk) (fun w' hw => Iu (Sl (hw.perm (List.reverse_perm [blk g2 131 #[.slice A5 l5 c5], blk g3 3 #[.int .i64 0], blk g4 29 #[.int .i64 0], slc (.slice A5 l5 c5) 138 4 (tks tk'), blk g9 176 #[.slice A bs.length cb, .int .i64 j, .slice A5 l5 c5]]).symm))) ?_
 rintro r L' rfl a' w' ha hw
 have e2 : a'.tmps.getD 2 undef = .pointer (some ⟨g2, 0, none⟩) := by have := ha.ev (x := .tmp 2) (v := .pointer (some ⟨g2, 0, none⟩)) rfl; simpa only [Act.eval] using this
 have e3 : a'.tmps.getD 3 undef = .pointer (some ⟨g3, 0, none⟩) := by have := ha.ev (x := .tmp 3) (v := .pointer (some ⟨g3, 0, none⟩)) rfl; simpa only [Act.eval] using this
 have e4 : a'.tmps.getD 4 undef = .pointer (some ⟨g4, 0, none⟩) := by have := ha.ev (x := .tmp 4) (v := .pointer (some ⟨g4, 0, none⟩)) rfl; simpa only [Act.eval] using this
 exact ⟨_, IT rfl e2 e3 e4 (Ci (hw.holds (blk g2 131 #[.slice A5 l5 c5]) (by simp)) NI rfl) (Ci (hw.holds (blk g3 3 #[.int .i64 0]) (by simp)) AJ rfl) (Ci (hw.holds (blk g4 29 #[.int .i64 0]) (by simp)) F6 rfl),
  _, [slc (.slice A5 l5 c5) 138 4 (tks tk')], rfl, .inl ⟨tk', (.slice A5 l5 c5), hsc, htl, rfl, rfl⟩, hw.sub (by simp)⟩
def liL (gr : Nat) (vp : Value) (s : RdS) (vl : Value) (tk : List Tk) : List Chunk :=
 [blk gr 135 #[.int .i64 s.n, vp, .bool s.hd, .int .i64 s.m], slc vp 35 2 (prs s.ps), slc vl 138 4 (tks tk)]
def LineR (gr : Nat) (s : RdS) (vl : Value) (tk : List Tk) (r : Value) (M : List Chunk) : Prop :=
 (∃ s' vp', lineF s tk = .ok s' ∧ r = .agg #[.int .i64 0, .int .i64 0] ∧ M = liL gr vp' s' vl tk) ∨ (∃ c a, lineF s tk = .bad c a ∧ c ≠ 0 ∧ r = .agg #[.int .i64 c, .int .i64 a])
theorem KH {gr : Nat} {vp vl : Value} {s : RdS} {tk : List Tk} {w : World} (hO : Own w (idsOf (liL gr vp s vl tk)) w (liL gr vp s vl tk)) (h0 : tk ≠ []) (hl : tk.length ≤ 100000000) (hp : s.ps.length ≤ 100000000) :
  Calls Tryz.prog 73 #[.pointer (some ⟨gr, 0, none⟩), vl] w (Ret w (idsOf (liL gr vp s vl tk)) (LineR gr s vl tk)) := by
 obtain ⟨A, cl, rfl, hR, hl1, hl2⟩ := Js hO 2 rfl
 obtain ⟨t, tr, rfl⟩ : ∃ t tr, tk = t :: tr := by cases tk with | nil => exact absurd rfl h0 | cons a b => exact ⟨a, b, rfl⟩
 obtain ⟨ad, rfl, _⟩ := hR.tk (i := 0) rfl
 obtain ⟨Ap, cp, rfl, _⟩ := CX hO 1 rfl (by omega)
 refine Ao (args := [_, _]) Tryz.func73 rfl Tryz.ntmps73 rfl hO ?_
 unfold liL
 refine Zs ?_
 refine Zw (AD rfl Iq rfl) fun g4 => ?_
 refine Zx <| DC.seq <| Zs ?_
 refine Zm ?_
 refine Zo (AH rfl rfl) ?_
 refine Zf J5 ?_
 refine Zl II ?_
 refine Zo (Bd rfl rfl) ?_
 refine Zx ?_
 refine Zd (fun c1 => ?_) fun c1 => ?_
 ·have hh : s.hd = false := by simpa using c1
  refine DC.seq <| DC.block <| Zs ?_
  refine Zm ?_
  refine Zn TX ?_
  refine Zo (BK rfl rfl rfl) ?_
  refine Za ?_
  refine Zx ?_
  refine Zd (fun c2 => ?_) fun c2 => ?_
  ·have hr : tr.length ≠ 1 := by simp at c2; omega
   refine Zs ?_
   refine Zm ?_
   refine Zo (AM (ad' := ad.add (0 * 4)) rfl rfl rfl TX Cn (by omega) (by simp) rfl) ?_
   refine Zf E0 ?_
   refine Zu (Ai rfl rfl AJ (Dp (i := 3) (j := 0) rfl rfl 1 rfl)) ?_
   refine Zo (AA (cs := #[_, _]) rfl rfl F2 rfl rfl) ?_
   refine Zy (At (cs' := #[_, _]) rfl rfl rfl B1 rfl (TB rfl) rfl) ?_
   refine Zx <| DC.ret <| Ae <| Aa <| Aa ?_
   refine Cw (cs := #[_, _]) (.inl rfl) rfl rfl DP B1 ?_
   refine ⟨_, fun w hw => hw, .inr ⟨20, t.fr, ?_, by decide, rfl⟩⟩
   unfold lineF; simp only [hh, if_true]
   split
   ·simp at hr
   rfl
  have hr : tr.length = 1 := by simp at c2; omega
  obtain ⟨u, rfl⟩ := List.length_eq_one_iff.1 hr
  refine Zs ?_
  refine Zm ?_
  refine Zo (AM (ad' := ad.add (0 * 4)) rfl rfl rfl TX Cn (by omega) (by simp) rfl) ?_
  refine Zf Eb ?_
  refine Zu (Ai rfl rfl AJ (Dp (i := 3) (j := 0) rfl rfl 3 rfl)) ?_
  refine Zo (Bs rfl rfl rfl) ?_
  refine Za ?_
  refine Zx ?_
  refine Zd (fun c4 => ?_) fun c4 => ?_
  ·refine Zs ?_
   refine Zm ?_
   refine Zo (AM (ad' := ad.add (0 * 4)) rfl rfl rfl TX Cn (by omega) (by simp) rfl) ?_
   refine Zf E0 ?_
   refine Zu (Ai rfl rfl AJ (Dp (i := 3) (j := 0) rfl rfl 1 rfl)) ?_
   refine Zo (AA (cs := #[_, _]) rfl rfl F2 rfl rfl) ?_
   refine Zy (At (cs' := #[_, _]) rfl rfl rfl B1 rfl (TB rfl) rfl) ?_
   refine Zx <| DC.ret <| Ae <| Aa <| Aa ?_
   refine Cw (cs := #[_, _]) (.inl rfl) rfl rfl DP B1 ?_
   refine ⟨_, fun w hw => hw, .inr ⟨21, t.fr, ?_, by decide, rfl⟩⟩
   simp at c4
   simp [lineF, hh, c4]
  refine Zs ?_
  refine Zm ?_
  refine Zo (AM (ad' := ad.add (1 * 4)) rfl rfl rfl TX Cn (by omega) (by simp) rfl) ?_
  refine Zf Eb ?_
  refine Zu (Ai rfl rfl AJ (Dp (i := 3) (j := 1) rfl rfl 3 rfl)) ?_
  refine Zo (Bs rfl rfl rfl) ?_
  refine Za ?_
  refine Zx ?_
  refine Zd (fun c6 => ?_) fun c6 => ?_
  ·refine Zs ?_
   refine Zm ?_
   refine Zo (AM (ad' := ad.add (1 * 4)) rfl rfl rfl TX Cn (by omega) (by simp) rfl) ?_
   refine Zf E0 ?_
   refine Zu (Ai rfl rfl AJ (Dp (i := 3) (j := 1) rfl rfl 1 rfl)) ?_
   refine Zo (AA (cs := #[_, _]) rfl rfl F2 rfl rfl) ?_
   refine Zy (At (cs' := #[_, _]) rfl rfl rfl B1 rfl (TB rfl) rfl) ?_
   refine Zx <| DC.ret <| Ae <| Aa <| Aa ?_
   refine Cw (cs := #[_, _]) (.inl rfl) rfl rfl DP B1 ?_
   refine ⟨_, fun w hw => hw, .inr ⟨22, u.fr, ?_, by decide, rfl⟩⟩
   simp at c4 c6
   simp [lineF, hh, c6]
   try omega
  refine DC.skip <| Fin.inBlock <| Fin.then <| DC.seq ?_
  refine AF (cl := [.q, .q, .q, .q, .q, .q, .q, .q, .q, .q, .q, .q, .q, .g, .q, .q, .q, .g, .q, .q, .g]) (A := [0, 0, 0, 0, 8, 24, 56, 0, 128, 384, 896, 2041, 4089, 8185, 16379, 32763, 65531, 131067, 262143, 524287, 1048575]) (order := [0, 1, 2, 3, 4, 5, 6, 7, 8, 9, 10, 11, 12, 13, 14, 15, 16, 17, 18, 19, 20]) ([slc (.slice (some ad) _ cl) 138 4 (tks [t, u])]) mixed (by kernel_rfl) (fun w hw => hw.pick (.cons 3 rfl .nil)) ?_
  iterate 4 refine Ym ?_
  refine Yo rfl (AM (ad' := ad.add (0 * 4)) rfl rfl rfl TX Cn (by omega) (by simp) rfl) ?_
  refine Yf Eb ?_
  refine Flow.old rfl rfl rfl (Ai rfl rfl AJ (Dp (i := 0) (j := 0) rfl rfl 3 rfl)) ?_
  refine Ym ?_
  refine Yo rfl (AM (ad' := ad.add (1 * 4)) rfl rfl rfl TX Cn (by omega) (by simp) rfl) ?_
  refine Yf Eb ?_
  refine Flow.old rfl rfl rfl (Ai rfl rfl AJ (Dp (i := 0) (j := 1) rfl rfl 3 rfl)) ?_
  refine Yo rfl (AH rfl rfl) ?_
  refine Yf J5 ?_
  refine AS rfl rfl rfl rfl (AE (cs' := #[_, _, _, _]) rfl rfl rfl Ft rfl (TB rfl) rfl) (fun w hw => hw.pick (.cons 3 rfl .nil)) ?_
  refine Yo rfl (AH rfl rfl) ?_
  refine Yf Ec ?_
  refine Yf Mz ?_
  refine AS rfl rfl rfl rfl (AE (cs' := #[_, _, _, _]) rfl rfl rfl AQ rfl (TB rfl) rfl) (fun w hw => hw.pick (.cons 3 rfl .nil)) ?_
  refine Yo rfl (AH rfl rfl) ?_
  refine Yf J4 ?_
  refine AS rfl rfl rfl rfl (AE (cs' := #[_, _, _, _]) rfl rfl rfl AQ rfl (TB rfl) rfl) (fun w hw => hw.pick (.cons 3 rfl .nil)) ?_
  refine Flow.end rfl ?_
  simp only [zq, zr]
  refine Fin.then <| Zs ?_
  refine Zo (AA (cs := #[_, _]) rfl rfl F2 rfl rfl) ?_
  refine Zy (At (cs' := #[_, _]) rfl rfl rfl B1 rfl (TB rfl) rfl) ?_
  refine Zx <| DC.ret <| Aa ?_
  refine Cw (cs := #[_, _]) (.inl rfl) rfl rfl DP B1 ?_
  refine ⟨_, fun w hw => hw.pick (.cons 1 rfl (.cons 1 rfl (.cons 1 rfl .nil))), .inl ⟨⟨t.nu, s.ps, true, u.nu⟩, _, ?_, rfl, rfl⟩⟩
  simp at c4 c6
  simp [lineF, hh, show ¬ 1048576 < t.nu by omega, show ¬ 2097152 < u.nu by omega]
 have hh : s.hd = true := by simpa using c1
 refine DC.skip <| Fin.then <| DC.seq <| DC.block <| DC.seq ?_
 refine AF (cl := [.q, .q, .q, .q, .v, .q, .q, .q, .q, .v, .q, .q]) (A := [0, 1, 3, 7, 15, 31, 0, 64, 192, 448, 1023, 2047]) (order := [0, 1, 2, 3, 4, 5, 6, 7, 8, 9, 10, 11]) [] mixed (by kernel_rfl) (fun w hw => hw.pick .nil) ?_
 refine Ym ?_
 refine Yo rfl (AH rfl rfl) ?_
 refine Yf Ec ?_
 refine Yf H3 ?_
 refine Yl Q7 ?_
 refine Yo rfl (CC rfl rfl Tryz.underlying37) ?_
 refine Ym ?_
 refine Yo rfl (AH rfl rfl) ?_
 refine Yf J4 ?_
 refine Yl AJ ?_
 refine Yo rfl (Cc rfl rfl rfl) ?_
 refine Yo rfl (AR rfl rfl) ?_
 refine Flow.end rfl ?_
 simp only [zq, zr]
 refine Fin.then ?_
 refine Zd (fun c10 => ?_) fun c10 => ?_
 ·have hm : s.m ≤ s.ps.length := by simp at c10; omega
  refine Zs ?_
  refine Zm ?_
  refine Zo (AM (ad' := ad.add (0 * 4)) rfl rfl rfl TX Cn (by omega) (by simp) rfl) ?_
  refine Zf E0 ?_
  refine Zu (Ai rfl rfl AJ (Dp (i := 3) (j := 0) rfl rfl 1 rfl)) ?_
  refine Zo (AA (cs := #[_, _]) rfl rfl F2 rfl rfl) ?_
  refine Zy (At (cs' := #[_, _]) rfl rfl rfl B1 rfl (TB rfl) rfl) ?_
  refine Zx <| DC.ret <| Ae <| Aa ?_
  refine Cw (cs := #[_, _]) (.inl rfl) rfl rfl DP B1 ?_
  refine ⟨_, fun w hw => hw, .inr ⟨26, t.fr, ?_, by decide, rfl⟩⟩
  simp [lineF, hh, hm]
 have hm : ¬ s.m ≤ s.ps.length := by simp at c10; omega
 refine Zs ?_
 refine Zm ?_
 refine Zn TX ?_
 refine Zo (BK rfl rfl rfl) ?_
 refine Za ?_
 refine Zx ?_
 refine Zd (fun c12 => ?_) fun c12 => ?_
 ·have hr : tr.length ≠ 1 := by simp at c12; omega
  refine Zs ?_
  refine Zm ?_
  refine Zo (AM (ad' := ad.add (0 * 4)) rfl rfl rfl TX Cn (by omega) (by simp) rfl) ?_
  refine Zf E0 ?_
  refine Zu (Ai rfl rfl AJ (Dp (i := 3) (j := 0) rfl rfl 1 rfl)) ?_
  refine Zo (AA (cs := #[_, _]) rfl rfl F2 rfl rfl) ?_
  refine Zy (At (cs' := #[_, _]) rfl rfl rfl B1 rfl (TB rfl) rfl) ?_
  refine Zx <| DC.ret <| Ae <| Aa ?_
  refine Cw (cs := #[_, _]) (.inl rfl) rfl rfl DP B1 ?_
  refine ⟨_, fun w hw => hw, .inr ⟨23, t.fr, ?_, by decide, rfl⟩⟩
  match tr, hr with
  | [], _ => simp [lineF, hh, hm]
  | _ :: _ :: _, _ => simp [lineF, hh, hm]
  | [_], h => exact absurd rfl h
 have hr : tr.length = 1 := by simp at c12; omega
 obtain ⟨u, rfl⟩ := List.length_eq_one_iff.1 hr
 refine DC.skip <| Fin.inBlock <| Fin.then <| DC.seq <| Zs ?_
 refine Zm ?_
 refine Zn TX ?_
 refine Zm ?_
 refine Zx <| DC.block ?_
 refine DC.loop (ι := Nat) (fun j => j ≤ 2 ∧ ∀ (p : Nat) k, p < j → [t, u][p]? = some k → k.nu < s.n)
  (fun j => [(0, .pointer (some ⟨gr, 0, none⟩)), (1, .slice (some ad) _ cl), (4, .pointer (some ⟨g4, 0, none⟩)), (88, .slice (some ad) _ cl), (89, .int .i64 2), (90, .int .i64 j)])
  (fun j => [blk g4 51 #[.int .i64 0, .int .i64 0], blk gr 135 #[.int .i64 s.n, .slice Ap s.ps.length cp, .bool s.hd, .int .i64 s.m], slc (.slice Ap s.ps.length cp) 35 2 (prs s.ps), slc (.slice (some ad) _ cl) 138 4 (tks [t, u])]) (fun j => 2 - j) 0 ⟨by omega, fun p k h => by omega⟩ ⟨rfl, rfl, rfl, rfl, rfl, rfl, trivial⟩ (.cons 0 rfl (.cons 0 rfl (.cons 0 rfl (.cons 0 rfl .nil)))) ?_
 rintro j ⟨hj, hall⟩
 refine Zs ?_
 refine Zc ?_
 refine Zx <| DC.seq ?_
 refine Zd (fun c15 => ?_) fun c15 => ?_
 ·have hj2 : j < 2 := by simp at c15; omega
  obtain ⟨k, hk⟩ : ∃ k, [t, u][j]? = some k := ⟨_, Tz hj2⟩
  refine DC.skip <| Fin.then <| DC.seq <| DC.block <| Zs ?_
  refine Zo (AM (ad' := ad.add (j * 4)) rfl rfl rfl TX Cn (by omega) (by simp; omega) (by rw [TC])) ?_
  refine Zu (Ay (vs := [_, _, _, _]) rfl rfl Qh Cn rfl (JT (i := 3) rfl hk)) ?_
  refine Zw (AD rfl IK rfl) fun g6 => ?_
  refine Zy (At (cs' := #[_, _, _, _]) rfl rfl rfl Cn rfl (TB rfl) rfl) ?_
  refine Zx <| DC.seq ?_
  refine AF (cl := [.q, .v, .q, .q, .q, .q, .v, .q]) (A := [0, 1, 0, 4, 12, 28, 60, 127]) (order := [0, 1, 2, 3, 4, 5, 6, 7]) [] mixed (by kernel_rfl) (fun w hw => hw.pick .nil) ?_
  refine Yf Eb ?_
  refine Yl AJ ?_
  refine Ym ?_
  refine Yo rfl (AH rfl rfl) ?_
  refine Yf Ec ?_
  refine Yf Mz ?_
  refine Yl AJ ?_
  refine Yo rfl (Cc rfl rfl rfl) ?_
  refine Flow.end rfl ?_
  simp only [zq, zr]
  refine Fin.then ?_
  refine Zd (fun c17 => ?_) fun c17 => ?_
  ·refine Zs ?_
   refine Zf E0 ?_
   refine Zl AJ ?_
   refine Zo (AA (cs := #[_, _]) rfl rfl F2 rfl rfl) ?_
   refine Zy (At (cs' := #[_, _]) rfl rfl rfl B1 rfl (TB rfl) rfl) ?_
   refine Zx <| DC.ret <| Ae <| Aa <| Aa <| Ae <| Aa ?_
   refine Cw (cs := #[_, _]) (.inl rfl) rfl rfl DP B1 ?_
   refine ⟨_, fun w hw => hw, .inr ⟨24, k.fr, ?_, by decide, rfl⟩⟩
   have hn : s.n ≤ k.nu := by simpa using c17
   match j, hj2, hk with
   | 0, _, hk => cases hk; simp [lineF, hh, hm, hn]
   | 1, _, hk =>
    cases hk
    have h1 := hall 0 t (by omega) rfl
    simp [lineF, hh, hm, hn, show ¬ s.n ≤ t.nu by omega]
  refine DC.skip <| Fin.inBlock <| Fin.then <| DC.region ?_
  refine Zp ?_
  refine Zm ?_
  refine Seq.nil ?_
  refine Ag (j + 1) (by omega) ⟨by omega, fun p k' h1 h2 => ?_⟩ ⟨rfl, rfl, rfl, rfl, rfl, rfl, trivial⟩ (.cons 1 rfl (.cons 1 rfl (.cons 1 rfl (.cons 1 rfl .nil))))
  by_cases hp : p = j
  ·subst hp; rw [hk] at h2; cases h2; simp at c17; omega
  exact hall p k' (by omega) h2
 refine DC.exit <| Ad <| Ad <| Ah <| Fin.then <| DC.seq ?_
 refine AF (cl := [.q, .q, .q, .q, .q, .v, .q, .q, .q, .v, .q, .q, .q, .v, .q, .n, .g, .q, .q, .q, .g]) (A := [0, 0, 2, 6, 14, 30, 0, 64, 192, 448, 0, 1024, 3072, 7168, 16320, 32704, 65534, 131071, 262143, 524287, 1048575]) (order := [0, 1, 2, 3, 4, 5, 6, 7, 8, 9, 10, 11, 12, 13, 14, 15, 16, 17, 18, 19, 20]) [] mixed (by kernel_rfl) (fun w hw => hw.pick .nil) ?_
 iterate 2 refine Ym ?_
 refine Yo rfl (AH rfl rfl) ?_
 refine Yf Ec ?_
 refine Yf H3 ?_
 refine Yl Q7 ?_
 refine Ym ?_
 refine Yo rfl (AM (ad' := ad.add (0 * 4)) rfl rfl rfl TX Cn (by omega) (by simp) rfl) ?_
 refine Yf Eb ?_
 refine Am rfl rfl rfl rfl (Ai rfl rfl AJ (Dp (i := 3) (j := 0) rfl rfl 3 rfl)) ?_
 refine Ym ?_
 refine Yo rfl (AM (ad' := ad.add (1 * 4)) rfl rfl rfl TX Cn (by omega) (by simp) rfl) ?_
 refine Yf Eb ?_
 refine Am rfl rfl rfl rfl (Ai rfl rfl AJ (Dp (i := 3) (j := 1) rfl rfl 3 rfl)) ?_
 refine Yo rfl (JK (cs := #[.int .i64 t.nu, .int .i64 u.nu]) rfl rfl Tryz.underlying35 AQ LW rfl rfl rfl) ?_
 refine BD rfl rfl rfl rfl (AP (cs := #[_, _]) rfl rfl Tryz.underlying37 Kw LW rfl (by decide) (by decide) rfl rfl) fun g121 => ?_
 refine DS (V := [blk g121 35 #[.int .i64 t.nu, .int .i64 u.nu], blk g4 51 #[.int .i64 0, .int .i64 0], blk gr 135 #[.int .i64 s.n, .slice Ap s.ps.length cp, .bool s.hd, .int .i64 s.m], slc (.slice Ap s.ps.length cp) 35 2 (prs s.ps), slc (.slice (some ad) _ cl) 138 4 (tks [t, u])]) rfl rfl rfl rfl rfl (Gen.shape (AK (F := [blk g121 _ _, blk g4 _ _, blk gr _ _, slc _ _ _ _]) (vs := prs s.ps) (k := 1) (news := [.int .i64 t.nu, .int .i64 u.nu]) rfl rfl rfl Tryz.underlying37 Kw by35 LW rfl (by decide) (by decide)
  (fun w hw => hw.pick (.cons 3 rfl (.cons 0 rfl (.cons 0 rfl (.cons 0 rfl (.cons 0 rfl .nil)))))) (.inl ⟨_, _, rfl, Ak rfl⟩) rfl (by intro u hu; simp at hu; rcases hu with rfl | rfl <;> rfl) (by rw [prs_length]; omega))) (fun v L' hC w hw => hw.pick (.nil)) ?_
 rintro _ _ ⟨⟨A11, l11, c11, rfl⟩, rfl⟩
 refine Yo rfl (AH rfl rfl) ?_
 refine Yf Ec ?_
 refine Yf H3 ?_
 refine AS rfl rfl rfl rfl (AE (cs' := #[_, _, _, _]) rfl rfl rfl sz37 rfl (TB rfl) rfl) (fun w hw => hw.pick (.nil)) ?_
 refine Flow.end rfl ?_
 simp only [zq, zr]
 refine Fin.then <| Zs ?_
 refine Zo (AA (cs := #[_, _]) rfl rfl F2 rfl rfl) ?_
 refine Zy (At (cs' := #[_, _]) rfl rfl rfl B1 rfl (TB rfl) rfl) ?_
 refine Zx <| DC.ret ?_
 refine Cw (cs := #[_, _]) (.inl rfl) rfl rfl DP B1 ?_
 have hj2 : j = 2 := by simp at c15; omega
 have h1 := hall 0 t (by omega) rfl
 have h2 := hall 1 u (by omega) rfl
 refine ⟨_, fun w hw => hw.pick (.cons 3 rfl (.cons 0 rfl (.cons 2 rfl .nil))), .inl ⟨⟨s.n, s.ps ++ [(t.nu, u.nu)], true, s.m⟩, .slice A11 l11 c11, ?_, rfl, ?_⟩⟩
 ·simp [lineF, hh, hm, show ¬ s.n ≤ t.nu by omega, show ¬ s.n ≤ u.nu by omega]
 simp [liL, Dm, prs, hh]
theorem Jz {gr : Nat} {vp vl : Value} {s : RdS} {tk : List Tk} {w : World} (hO : Own w (idsOf (liL gr vp s vl tk)) w (liL gr vp s vl tk)) (h0 : tk ≠ []) (hl : tk.length ≤ 100000000) (hp : s.ps.length ≤ 100000000) :
  Calls Tryz.prog 73 #[.pointer (some ⟨gr, 0, none⟩), vl] w (Ret w (idsOf (liL gr vp s vl tk)) fun r M => ∃ c a, r = .agg #[.int .i64 c, .int .i64 a] ∧
   ((c = 0 ∧ ∃ s' vp', lineF s tk = .ok s' ∧ M = liL gr vp' s' vl tk) ∨ (c ≠ 0 ∧ lineF s tk = .bad c a))) := by
 refine Calls.mono (KH hO h0 hl hp) ?_
 rintro e w' ⟨v, L', rfl, ⟨s', vp', h1, rfl, rfl⟩ | ⟨c, a, h1, h2, rfl⟩, hO⟩
 ·exact ⟨_, _, rfl, ⟨0, 0, rfl, .inl ⟨rfl, s', vp', h1, rfl⟩⟩, hO⟩
 exact ⟨_, _, rfl, ⟨c, a, rfl, .inr ⟨h2, h1⟩⟩, hO⟩
theorem LO {vb : Value} {bs : List UInt8} {w : World} (hB : ByV w vb bs) :
  Calls Tryz.prog 72 #[vb] w (Ret w [] fun r M => ∃ tk A c a e, r = .tuple #[.slice A tk.length c, .int .i64 a, .int .i64 e] ∧ M = [slc (.slice A tk.length c) 138 4 (tks tk)] ∧ tk.length ≤ 33554433 ∧ (tk ≠ [] → ∃ ad, A = some ad) ∧ ((e = 0 ∧ scanA bs = .ok tk) ∨ (e ≠ 0 ∧ scanA bs = .bad a e))) := by
 refine Calls.mono (MO hB) ?_
 rintro e w' ⟨v, L', rfl, ⟨tk, vt, hsc, htl, rfl, rfl⟩ | ⟨a, e, hsc, rfl, rfl⟩, hO⟩
 ·obtain ⟨A, c, rfl, hR, _⟩ := Js hO 0 rfl
  refine ⟨_, _, rfl, ⟨tk, A, c, 0, 0, rfl, rfl, htl, fun hne => ?_, .inl ⟨rfl, hsc⟩⟩, hO⟩
  obtain ⟨k, hk⟩ : ∃ k, tk[0]? = some k := ⟨_, Tz (List.length_pos_iff.2 hne)⟩
  obtain ⟨ad, e, _⟩ := hR.tk hk
  exact ⟨ad, e⟩
 exact ⟨_, _, rfl, ⟨[], none, 0, a, e, rfl, rfl, by simp, fun h => absurd rfl h, .inr ⟨NQ hsc, hsc⟩⟩, AX hO⟩
structure FeI where
 s : RdS
 l : List Tk
 j : Nat
 vp : Value
 vl : Value
def RawR (bs : List UInt8) (r : Value) (M : List Chunk) : Prop :=
 (∃ n ps vp, rawF bs = .ok n ps ∧ ps.length ≤ 33554433 ∧ r = .tuple #[.agg #[.int .i64 n, vp], .agg #[.int .i64 0, .int .i64 0]] ∧ M = [slc vp 35 2 (prs ps)]) ∨
 (∃ c a, rawF bs = .bad c a ∧ c ≠ 0 ∧ r = .tuple #[.agg #[.int .i64 0, .slice none 0 0], .agg #[.int .i64 c, .int .i64 a]] ∧ M = [])
theorem Jl {vb : Value} {bs : List UInt8} {w : World} (hB : ByV w vb bs) :
  Calls Tryz.prog 38 #[vb] w (Ret w [] (RawR bs)) := by
 have ho : ByO vb bs [] := fun _ _ _ _ _ h => by simp at h
 obtain ⟨Ab, cb, rfl⟩ := hB.len
 refine Ao (K := []) (args := [_]) (L := []) Tryz.func38 rfl Tryz.ntmps38 rfl (Own.start _ _) ?_
 refine Zs ?_
 refine Zw (AD rfl Ru rfl) fun g2 => ?_
 refine Zw (AD rfl Iq rfl) fun g3 => ?_
 refine Zx ?_
 refine DC.scope ?_
 refine DC.seq <| Zs ?_
 refine Zm ?_
 refine Zn TV ?_
 refine Zo (Bs rfl rfl rfl) ?_
 refine Zx ?_
 refine Zd (fun c1 => ?_) fun c1 => ?_
 ·refine Zs ?_
  refine Zo (AA (cs := #[_, _]) rfl rfl Qd rfl rfl) ?_
  refine Zo (AA (cs := #[_, _]) rfl rfl F2 rfl rfl) ?_
  refine Zy (At (cs' := #[_, _]) rfl rfl rfl Fb rfl (TB rfl) rfl) ?_
  refine Zy (At (cs' := #[_, _]) rfl rfl rfl B1 rfl (TB rfl) rfl) ?_
  refine Zx <| DC.ret <| Aa <| Cj ?_
  refine Cq (cs := #[_, _]) (cs' := #[_, _]) (.inl rfl) rfl rfl rfl MM Fb DP B1 ?_
  refine ⟨[], fun w hw => hw.pick .nil, .inr ⟨10, 16777216, ?_, by decide, rfl, rfl⟩⟩
  have : 16777216 < bs.length := by simp at c1; omega
  simp [rawF, this]
 have hlen : ¬ 16777216 < bs.length := by simp at c1; omega
 refine DC.skip <| Fin.then <| Zs ?_
 refine Zm ?_
 refine Seq.gen rfl rfl (Bh en72 rfl rfl rfl (Lc := []) (F := [blk g3 51 #[.int .i64 0, .int .i64 0], blk g2 84 #[.int .i64 0, .slice none 0 0]]) (.refl _) (fun k hk => by simp at hk) (fun w hw => LO (hB.keep0 hw))) ?_
 rintro _ _ ⟨_, ⟨tk, A, c, a, e, rfl, rfl, htl, hA, hsc⟩, rfl⟩
 refine Zm ?_
 iterate 3 refine Ze ?_
 iterate 3 refine Za ?_
 refine Zx <| DC.seq <| DC.seq ?_
 simp only [zs]
 refine DC.region ?_
 refine Zm ?_
 refine Zo (BK rfl rfl rfl) ?_
 refine Zx ?_
 refine Zd (fun c4 => ?_) fun c4 => ?_
 ·have hbad : scanA bs = .bad a e ∧ e ≠ 0 := by
   rcases hsc with ⟨rfl, _⟩ | ⟨h1, h2⟩
   ·simp at c4
   exact ⟨h2, h1⟩
  refine Zs ?_
  refine Zo (AA (cs := #[_, _]) rfl rfl Qd rfl rfl) ?_
  iterate 2 refine Zm ?_
  refine Zo (AA (cs := #[_, _]) rfl rfl F2 rfl rfl) ?_
  refine Zy (At (cs' := #[_, _]) rfl rfl rfl Fb rfl (TB rfl) rfl) ?_
  refine Zy (At (cs' := #[_, _]) rfl rfl rfl B1 rfl (TB rfl) rfl) ?_
  refine Zx <| DC.ret <| Aa <| Cj ?_
  refine Cq (cs := #[_, _]) (cs' := #[_, _]) (.inl rfl) rfl rfl rfl MM Fb DP B1 ?_
  refine ⟨[], fun w hw => hw.pick .nil, .inr ⟨e, a, ?_, hbad.2, rfl, rfl⟩⟩
  simp [rawF, hlen, hbad.1]
 have hok : scanA bs = .ok tk := by
  rcases hsc with ⟨_, h2⟩ | ⟨h1, h2⟩
  ·exact h2
  simp at c4; exact absurd c4.symm (fun h => h1 h.symm)
 have hrw : rawF bs = endF bs.length (feedF ⟨0, [], false, 0⟩ [] tk) := by simp [rawF, hlen, hok]
 refine DC.skip <| Fin.then <| Zs ?_
 refine Zw (AD rfl R9 rfl) fun g7 => ?_
 refine Zx <| Zs ?_
 refine Za ?_
 refine Zx <| DC.seq <| DC.label <| Fin.then ?_
 refine DC.cut (ι := FeI) (fun i => feedF ⟨0, [], false, 0⟩ [] tk = .ok i.s ∧ i.s.ps.length ≤ 33554433) (fun i => [(0, .slice Ab bs.length cb), (2, .pointer (some ⟨g2, 0, none⟩)), (3, .pointer (some ⟨g3, 0, none⟩)), (7, .pointer (some ⟨g7, 0, none⟩))])
  (fun i => [blk g7 135 #[.int .i64 i.s.n, i.vp, .bool i.s.hd, .int .i64 i.s.m], slc i.vp 35 2 (prs i.s.ps), blk g3 51 #[.int .i64 0, .int .i64 0], blk g2 84 #[.int .i64 0, .slice none 0 0]]) ?first ?rest
 case first =>
  refine DC.seq ?_
  refine DC.own (fun w hw => AX (t := 138) (m := 4) (AX (t := 35) (m := 2) hw)) ?_
  refine DC.region ?_
  refine Zm ?_
  refine Zn TX ?_
  refine Zm ?_
  refine Zx <| DC.block ?_
  refine DC.loop (ι := FeI) (fun i => feedF ⟨0, [], false, 0⟩ [] tk = feedF i.s i.l (tk.drop i.j) ∧ i.j ≤ tk.length ∧ i.s.ps.length ≤ i.j ∧ i.l.length ≤ i.j)
   (fun i => [(0, .slice Ab bs.length cb), (2, .pointer (some ⟨g2, 0, none⟩)), (3, .pointer (some ⟨g3, 0, none⟩)), (7, .pointer (some ⟨g7, 0, none⟩)), (8, i.vl), (29, .slice A tk.length c), (30, .int .i64 tk.length), (31, .int .i64 (i.j : Nat))])
   (fun i => [blk g7 135 #[.int .i64 i.s.n, i.vp, .bool i.s.hd, .int .i64 i.s.m], slc i.vp 35 2 (prs i.s.ps), slc i.vl 138 4 (tks i.l), blk g3 51 #[.int .i64 0, .int .i64 0], blk g2 84 #[.int .i64 0, .slice none 0 0], slc (.slice A tk.length c) 138 4 (tks tk)]) (fun i => tk.length - i.j)
   ⟨⟨0, [], false, 0⟩, [], 0, .slice none 0 0, .slice none 0 0⟩ ⟨rfl, by simp, by simp, by simp⟩ ⟨rfl, rfl, rfl, rfl, rfl, rfl, rfl, rfl, trivial⟩ (.cons 2 rfl (.cons 1 rfl (.cons 0 rfl (.cons 1 rfl (.cons 1 rfl (.cons 0 rfl .nil)))))) ?_
  rintro ⟨s, l, j, vp, vl⟩ ⟨hfe, hj, hpl, hll⟩
  dsimp only at hfe hj hpl hll ⊢
  refine Zs ?_
  refine Zc ?_
  refine Zx <| DC.seq ?_
  refine Zd (fun c9 => ?_) fun c9 => ?_
  ·have hj9 : j < tk.length := by simpa using c9
   obtain ⟨k, hk⟩ : ∃ k, tk[j]? = some k := ⟨_, Tz hj9⟩
   obtain ⟨ad, rfl⟩ := hA (fun e => by rw [e] at hj9; simp at hj9)
   have hdr : tk.drop j = k :: tk.drop (j + 1) := by rw [List.drop_eq_getElem_cons hj9]; congr 1; exact (TA.1 hk).2
   rw [hdr] at hfe
   refine DC.skip <| Fin.then <| DC.seq <| DC.block <| Zs ?_
   refine Zo (AM (ad' := ad.add (j * 4)) rfl rfl rfl TX Cn (by omega) (by omega) (by rw [TC])) ?_
   refine Zu (Ay (vs := [_, _, _, _]) rfl rfl Qh Cn rfl (JT (i := 5) rfl hk)) ?_
   refine Zw (AD rfl IK rfl) fun g10 => ?_
   refine Zy (At (cs' := #[_, _, _, _]) rfl rfl rfl Cn rfl (TB rfl) rfl) ?_
   refine Zx <| DC.seq <| Zs ?_
   refine Zf J3 ?_
   refine Zl Qi ?_
   refine Zo (AN rfl rfl rfl) ?_
   refine Zx ?_
   refine Zd (fun c11 => ?_) fun c11 => ?_
   ·have hk1 : k.kd = 1 := by simpa using c11
    refine Zs ?_
    refine Zm ?_
    refine Zu (Ay (vs := [_, _, _, _]) rfl rfl Qh Cn rfl (Ak rfl)) ?_
    refine Zw (AP (cs := #[_, _, _, _]) rfl rfl TX Cn IK rfl (by decide) (by decide) rfl rfl) fun g40 => ?_
    refine Seq.gen rfl rfl (Gen.shape (AK (F := [blk g40 _ _, blk g10 _ _, blk g7 _ _, slc _ _ _ _, blk g3 _ _, blk g2 _ _, slc _ _ _ _]) (vs := tks l) (k := 1) (news := [.int .i64 k.kd, .int .i64 k.fr, .int .i64 k.en, .int .i64 k.nu]) rfl rfl rfl TX Cn Rt IK rfl (by decide) (by decide)
     (fun w hw => hw.pick (.cons 4 rfl (.cons 0 rfl (.cons 0 rfl (.cons 0 rfl (.cons 0 rfl (.cons 0 rfl (.cons 0 rfl (.cons 0 rfl .nil))))))))) (.inl ⟨_, _, rfl, Ak rfl⟩) rfl (by intro u hu; simp at hu; rcases hu with rfl | rfl | rfl | rfl <;> rfl) (by rw [tks_length]; omega))) ?_
    rintro _ _ ⟨⟨A11, l11, c11', rfl⟩, rfl⟩
    refine Za ?_
    refine Zx <| DC.exit <| Ad <| Ah <| Fin.then <| DC.region ?_
    refine Zp ?_
    refine Zm ?_
    refine Seq.nil ?_
    refine Ag ⟨s, l ++ [k], j + 1, vp, .slice A11 l11 c11'⟩ (by dsimp only; omega) ⟨hfe.trans (Oo hk1), by dsimp only; omega, by dsimp only; omega, by simp; omega⟩ ⟨rfl, rfl, rfl, rfl, rfl, rfl, rfl, rfl, trivial⟩ (.cons 3 rfl (.cons 3 rfl (.cons' 0 rfl (by rw [Hh]; rfl) (.cons 2 rfl (.cons 2 rfl (.cons 2 rfl .nil))))))
   have hk1 : k.kd ≠ 1 := by simpa using c11
   refine DC.skip <| Fin.then <| DC.seq <| DC.seq ?_
   refine OH 3 rfl ?_
   rintro ⟨Al, cl, rfl⟩
   refine DC.region ?_
   refine Zm ?_
   refine Zn TX ?_
   refine Zo (Bs rfl rfl rfl) ?_
   refine Zx ?_
   refine Zd (fun c13 => ?_) fun c13 => ?_
   ·have hl0 : l ≠ [] := by rintro rfl; simp at c13
    refine DC.seq <| Zs ?_
    refine Zm ?_
    refine Seq.gen rfl rfl (Bh en73 rfl rfl rfl (Lc := liL g7 vp s (.slice Al l.length cl) l) (F := [blk g10 138 #[.int .i64 k.kd, .int .i64 k.fr, .int .i64 k.en, .int .i64 k.nu], blk g3 51 #[.int .i64 0, .int .i64 0], blk g2 84 #[.int .i64 0, .slice none 0 0], slc (.slice (some ad) tk.length c) 138 4 (tks tk)]) (List.perm_middle (a := blk g10 138 #[.int .i64 k.kd, .int .i64 k.fr, .int .i64 k.en, .int .i64 k.nu]) (l₁ := liL g7 vp s (.slice Al l.length cl) l)).symm (fun k hk => hk) (fun w hw => Jz (hw.pick (L' := liL g7 vp s (.slice Al l.length cl) l) (.cons 1 rfl (.cons 1 rfl (.cons 1 rfl .nil)))).self hl0 (by omega) (by omega))) ?_
    rintro _ _ ⟨M', ⟨cc, aa, rfl, hln⟩, rfl⟩
    refine Seq.own (fun w hw => hw.perm (TR)) ?_
    simp only [zs]
    refine Zw (AD rfl Iq rfl) fun g11 => ?_
    refine Zy (At (cs' := #[_, _]) rfl rfl rfl B1 rfl (TB rfl) rfl) ?_
    refine Zx <| Zs ?_
    refine Zf Gw ?_
    refine Zl F6 ?_
    refine Zo (BK rfl rfl rfl) ?_
    refine Zx ?_
    refine Zd (fun c15 => ?_) fun c15 => ?_
    ·have hbad : lineF s l = .bad cc aa ∧ cc ≠ 0 := by
      rcases hln with ⟨rfl, _⟩ | ⟨h1, h2⟩
      ·simp at c15
      exact ⟨h2, h1⟩
     refine DC.seq ?_
     refine AF (cl := [.q, .q, .g, .g]) (A := [0, 0, 1, 7]) (order := [0, 1, 2, 3]) ([blk g11 51 #[.int .i64 cc, .int .i64 aa]]) mixed (by kernel_rfl) (fun w hw => hw.pick (.cons 0 rfl .nil)) ?_
     refine Yo rfl (AA (cs := #[_, _]) rfl rfl Qd rfl rfl) ?_
     refine Flow.old rfl rfl rfl (Ay (vs := [_, _]) rfl rfl DP B1 rfl (Ak rfl)) ?_
     refine AS rfl rfl rfl rfl (At (cs' := #[_, _]) rfl rfl rfl Fb rfl (TB rfl) rfl) (fun w hw => hw.pick (.cons 0 rfl .nil)) ?_
     refine AS rfl rfl rfl rfl (At (cs' := #[_, _]) rfl rfl rfl B1 rfl (TB rfl) rfl) (fun w hw => hw.pick (.cons 0 rfl .nil)) ?_
     refine Flow.end rfl ?_
     simp only [zq, zr]
     refine Fin.then <| DC.ret <| Aa <| Aa <| Ae <| Aa <| Aa <| Ae <| Aa <| Cj ?_
     refine Cq (cs := #[_, _]) (cs' := #[_, _]) (.inl rfl) rfl rfl rfl MM Fb DP B1 ?_
     refine ⟨[], fun w hw => hw.pick .nil, .inr ⟨cc, aa, ?_, hbad.2, rfl, rfl⟩⟩
     rw [hrw, hfe, Oq hk1 hl0 hbad.1]; rfl
    obtain ⟨s', vp', hs', rfl⟩ : ∃ s' vp', lineF s l = .ok s' ∧ M' = liL g7 vp' s' (.slice Al l.length cl) l := by
     rcases hln with ⟨_, h⟩ | ⟨h1, h2⟩
     ·exact h
     simp at c15; exact absurd c15.symm (fun h => h1 h.symm)
    have hpl' := Od hs'
    refine DC.skip <| Fin.then <| DC.region ?_
    refine Zm ?_
    refine Zo (Fi (hi := 0) rfl rfl rfl TX Cn (by omega)) ?_
    refine Za ?_
    refine Seq.nil ?_
    unfold liL
    refine Fin.own (fun w hw => N3 (m := 4) 7 rfl (by decide) hw) ?_
    simp only [List.eraseIdx_cons_succ, List.eraseIdx_cons_zero]
    refine Fin.then <| Zs ?_
    refine Zf J3 ?_
    refine Zl Qi ?_
    refine Zo (AN rfl rfl rfl) ?_
    refine Zx ?_
    refine Zd (fun c18 => ?_) fun c18 => ?_
    ·have hk3 : k.kd = 3 := by simpa using c18
     refine DC.exit <| E8 (by decide) <| Ad <| Ad <| Ah ?_
     refine AG ⟨s', [], 0, vp', .slice none 0 0⟩ ⟨hfe.trans (Jc hk1 (.inr ⟨hl0, hs'⟩) hk3), by dsimp only; omega⟩ ⟨rfl, rfl, rfl, rfl, trivial⟩ (.cons 6 rfl (.cons 6 rfl (.cons 3 rfl (.cons 3 rfl .nil))))
    have hk3 : k.kd ≠ 3 := by simpa using c18
    refine DC.skip <| Fin.inBlock <| Fin.then <| DC.region ?_
    refine Zp ?_
    refine Zm ?_
    refine Seq.nil ?_
    refine Ag ⟨s', [], j + 1, vp', .slice Al 0 cl⟩ (by dsimp only; omega) ⟨hfe.trans (Lt hk1 (.inr ⟨hl0, hs'⟩) hk3), by dsimp only; omega, by dsimp only; omega, by simp⟩ ⟨rfl, rfl, rfl, rfl, rfl, rfl, rfl, rfl, trivial⟩ (.cons 6 rfl (.cons 6 rfl (.cons 0 rfl (.cons 2 rfl (.cons 2 rfl (.cons 2 rfl .nil))))))
   have hl0 : l = [] := by simp at c13; exact c13
   refine DC.skip <| Fin.then <| Zs ?_
   refine Zf J3 ?_
   refine Zl Qi ?_
   refine Zo (AN rfl rfl rfl) ?_
   refine Zx ?_
   refine Zd (fun c18 => ?_) fun c18 => ?_
   ·have hk3 : k.kd = 3 := by simpa using c18
    refine DC.exit <| E8 (by decide) <| Ad <| Ad <| Ah ?_
    refine AG ⟨s, [], 0, vp, .slice none 0 0⟩ ⟨hfe.trans (Jc hk1 (.inl ⟨hl0, rfl⟩) hk3), by dsimp only; omega⟩ ⟨rfl, rfl, rfl, rfl, trivial⟩ (.cons 1 rfl (.cons 1 rfl (.cons 2 rfl (.cons 2 rfl .nil))))
   have hk3 : k.kd ≠ 3 := by simpa using c18
   refine DC.skip <| Fin.inBlock <| Fin.then <| DC.region ?_
   refine Zp ?_
   refine Zm ?_
   refine Seq.nil ?_
   subst hl0
   refine Ag ⟨s, [], j + 1, vp, .slice Al ([] : List Tk).length cl⟩ (by dsimp only; omega) ⟨hfe.trans (Lt hk1 (.inl ⟨rfl, rfl⟩) hk3), by dsimp only; omega, by dsimp only; omega, by simp⟩ ⟨rfl, rfl, rfl, rfl, rfl, rfl, rfl, rfl, trivial⟩ (.cons 1 rfl (.cons 1 rfl (.cons 1 rfl (.cons 1 rfl (.cons 1 rfl (.cons 1 rfl .nil))))))
  refine DC.exit <| Ad <| Ad <| Ah ?_
  have hj9 : tk.length ≤ j := by simp at c9; omega
  rw [List.drop_eq_nil_of_le hj9] at hfe
  refine AG ⟨s, [], 0, vp, .slice none 0 0⟩ ⟨hfe, by dsimp only; omega⟩ ⟨rfl, rfl, rfl, rfl, trivial⟩ (.cons 0 rfl (.cons 0 rfl (.cons 1 rfl (.cons 1 rfl .nil))))
 rintro ⟨s, l', j', vp, vl'⟩ ⟨hfe, hpl⟩
 dsimp only at hfe hpl ⊢
 refine Gz 1 rfl (by omega) ?_
 rintro ⟨Ap, cp, rfl⟩
 refine DC.seq <| DC.block <| Zs ?_
 refine Zf J5 ?_
 refine Zl II ?_
 refine Zo (Bd rfl rfl) ?_
 refine Za ?_
 refine Zx ?_
 refine Zd (fun c20 => ?_) fun c20 => ?_
 ·refine Zs ?_
  refine Zo (AA (cs := #[_, _]) rfl rfl Qd rfl rfl) ?_
  refine Zm ?_
  refine Zn TV ?_
  refine Zo (AA (cs := #[_, _]) rfl rfl F2 rfl rfl) ?_
  refine Zy (At (cs' := #[_, _]) rfl rfl rfl Fb rfl (TB rfl) rfl) ?_
  refine Zy (At (cs' := #[_, _]) rfl rfl rfl B1 rfl (TB rfl) rfl) ?_
  refine Zx <| DC.ret <| Ae <| Aa <| Cj ?_
  refine Cq (cs := #[_, _]) (cs' := #[_, _]) (.inl rfl) rfl rfl rfl MM Fb DP B1 ?_
  refine ⟨[], fun w hw => hw.pick .nil, .inr ⟨20, bs.length, ?_, by decide, rfl, rfl⟩⟩
  have hh : s.hd = false := by simpa using c20
  rw [hrw, hfe]; simp [endF, hh]
 have hh : s.hd = true := by simpa using c20
 refine Zs ?_
 refine Zf Ec ?_
 refine Zf H3 ?_
 refine Zl Q7 ?_
 refine Zn Tryz.underlying37 ?_
 refine Zf J4 ?_
 refine Zl AJ ?_
 refine Zc ?_
 refine Za ?_
 refine Zx ?_
 refine Zd (fun c22 => ?_) fun c22 => ?_
 ·refine Zs ?_
  refine Zo (AA (cs := #[_, _]) rfl rfl Qd rfl rfl) ?_
  refine Zm ?_
  refine Zn TV ?_
  refine Zo (AA (cs := #[_, _]) rfl rfl F2 rfl rfl) ?_
  refine Zy (At (cs' := #[_, _]) rfl rfl rfl Fb rfl (TB rfl) rfl) ?_
  refine Zy (At (cs' := #[_, _]) rfl rfl rfl B1 rfl (TB rfl) rfl) ?_
  refine Zx <| DC.ret <| Ae <| Aa <| Cj ?_
  refine Cq (cs := #[_, _]) (cs' := #[_, _]) (.inl rfl) rfl rfl rfl MM Fb DP B1 ?_
  refine ⟨[], fun w hw => hw.pick .nil, .inr ⟨25, bs.length, ?_, by decide, rfl, rfl⟩⟩
  have hm : (s.ps.length : Int) < s.m := by simpa using c22
  rw [hrw, hfe]; simp [endF, hh, hm]
 refine DC.skip <| Fin.inBlock <| Fin.then <| Zs ?_
 refine Zf Ec ?_
 refine Zu (Ay (vs := [_, _]) rfl rfl MM Fb rfl (Ak rfl)) ?_
 refine Zo (AA (cs := #[_, _]) rfl rfl F2 rfl rfl) ?_
 refine Zy (At (cs' := #[_, _]) rfl rfl rfl Fb rfl (TB rfl) rfl) ?_
 refine Zy (At (cs' := #[_, _]) rfl rfl rfl B1 rfl (TB rfl) rfl) ?_
 refine Zx <| DC.ret <| Cj ?_
 refine Cq (cs := #[_, _]) (cs' := #[_, _]) (.inl rfl) rfl rfl rfl MM Fb DP B1 ?_
 refine ⟨_, fun w hw => hw.pick (.cons 1 rfl .nil), .inl ⟨s.n, s.ps, _, ?_, hpl, rfl, rfl⟩⟩
 have hm : ¬ (s.ps.length : Int) < s.m := by simp at c22; omega
 rw [hrw, hfe]; simp [endF, hh, hm]
/-- A number of a certificate's text: what it is, the place behind it. -/
def numP (bs : List UInt8) (i : Nat) : Option (Int × Nat) :=
 if digs (bs.drop i) = 0 ∨ 9 < digs (bs.drop i) ∨ (1 < digs (bs.drop i) ∧ bs[i]? = some 48) then none else some (numAt bs i (i + digs (bs.drop i)), i + digs (bs.drop i))
def rdC (g : Nat) (vb : Value) (i : Nat) (bad : Int) : Chunk := blk g 91 #[vb, .int .i64 i, .int .i64 bad]
theorem Hf {x c : UInt8} : ((x.toNat : Int) = c.toNat) ↔ x = c := by
 constructor
 ·intro h
  exact UInt8.toNat_inj.1 (by omega)
 intro h; rw [h]
theorem DN {g i : Nat} {vb : Value} {bad : Int} {bs : List UInt8} {c : UInt8} {w : World} (hg : w.heap[g]? = some (.cells #[vb, .int .i64 i, .int .i64 bad] 91 (0, 0))) (hB : ByV w vb bs) :
  Calls Tryz.prog 76 #[.pointer (some ⟨g, 0, none⟩), .int .u8 c.toNat] w (Ret w [] fun r M => M = [] ∧ ∃ b, r = .bool b ∧ (b = true ↔ bs[i]? = some c)) := by
 obtain ⟨A, cap, rfl, hR, h1, h2⟩ := hB
 refine Ao (args := [_, _]) (L := []) Tryz.func76 rfl Tryz.ntmps76 rfl (Own.start _ _) ?_
 refine Zs ?_
 refine Za ?_
 refine Zx <| DC.seq ?_
 refine AF (cl := [.q, .q, .q, .v, .q, .q, .q, .v, .q, .q, .q, .q, .q, .q, .v, .q, .q, .q, .v, .q, .v, .q, .q, .q, .q]) (A := [0, 1, 3, 7, 0, 16, 48, 112, 240, 511, 1023, 2047, 4095, 8191, 16383, 2047, 34815, 100351, 231423, 524287, 1048575, 2047, 4194303, 8388607, 16777215]) (order := [0, 1, 2, 3, 4, 5, 6, 7, 8, 9, 10, 11, 12, 13, 14, 15, 16, 17, 18, 19, 20, 21, 22, 23, 24]) [] mixed (by kernel_rfl) (fun w hw => hw.pick .nil) ?_
 refine Ym ?_
 refine Yo rfl (AH rfl rfl) ?_
 refine Yf BS ?_
 refine Am rfl rfl rfl rfl (Ai rfl rfl AJ (Bc hg rfl)) ?_
 refine Ym ?_
 refine Yo rfl (AH rfl rfl) ?_
 refine Yf EL ?_
 refine Am rfl rfl rfl rfl (Ai rfl rfl E4 (Bc hg rfl)) ?_
 refine Yo rfl (CC rfl rfl TV) ?_
 refine Yo rfl (E7 rfl rfl rfl) ?_
 refine Ym ?_
 refine Flow.split 15 rfl (fun k1_10 => ?_) (fun k1_10 => ?_)
 ·have hil : i < bs.length := by simpa using k1_10
  obtain ⟨x, hx⟩ : ∃ c, bs[i]? = some c := ⟨_, Tz hil⟩
  obtain ⟨ad, rfl, hcell⟩ := hR.byte hx
  refine Ym ?_
  refine Yo rfl (AH rfl rfl) ?_
  refine Yf EL ?_
  refine Am rfl rfl rfl rfl (Ai rfl rfl E4 (Bc hg rfl)) ?_
  refine Ym ?_
  refine Yo rfl (AH rfl rfl) ?_
  refine Yf BS ?_
  refine Am rfl rfl rfl rfl (Ai rfl rfl AJ (Bc hg rfl)) ?_
  refine Yo rfl (Aj (ad' := ad.add i) rfl rfl rfl TV Dw (by omega) (by omega) (by rw [TC])) ?_
  refine Am rfl rfl rfl rfl (Ai rfl rfl Qo (Aw hcell)) ?_
  refine Ym ?_
  refine Yo rfl (AN rfl rfl rfl) ?_
  refine Yo rfl (A7 rfl rfl rfl) ?_
  refine Yo rfl (AR rfl rfl) ?_
  refine Flow.end rfl ?_
  simp only [zq, zr]
  refine Fin.then <| DC.ret ?_
  refine Zh ?_
  refine ⟨rfl, _, rfl, ?_⟩
  first
  | (rw [hx, decide_eq_true_iff, Hf, Option.some.injEq])
  | (rw [TQ hil]; simp)
 have hil : bs.length ≤ i := by simpa using k1_10
 iterate 12 refine Yk ?_
 refine Yo rfl (AZ rfl rfl rfl) ?_
 refine Yo rfl (AR rfl rfl) ?_
 refine Flow.end rfl ?_
 simp only [zq, zr]
 refine Fin.then <| DC.ret ?_
 refine Zh ?_
 refine ⟨rfl, _, rfl, ?_⟩
 first
 | (rw [hx, decide_eq_true_iff, Hf, Option.some.injEq])
 | (rw [TQ hil]; simp)
theorem BT {g i : Nat} {vb : Value} {bad k : Int} {w : World} (hO : Own w (idsOf [rdC g vb i bad]) w [rdC g vb i bad]) :
  Calls Tryz.prog 77 #[.pointer (some ⟨g, 0, none⟩), .int .i64 k] w (Ret w (idsOf [rdC g vb i bad]) fun r M => r = .bool false ∧ ∃ bad', M = [rdC g vb i bad']) := by
 refine Ao (args := [_, _]) Tryz.func77 rfl Tryz.ntmps77 rfl hO ?_
 unfold rdC
 refine Zs ?_
 refine Za ?_
 refine Zx <| DC.seq <| Zs ?_
 refine Zm ?_
 refine Zo (AH rfl rfl) ?_
 refine Zf My ?_
 refine Zl AJ ?_
 refine Zc ?_
 refine Zx ?_
 refine Zd (fun c1 => ?_) fun c1 => ?_
 ·refine DC.region ?_
  iterate 2 refine Zm ?_
  refine Zo (AH rfl rfl) ?_
  refine Zf My ?_
  refine Zy (AE (cs' := #[_, _, _]) rfl rfl rfl AQ rfl (TB rfl) rfl) ?_
  refine Zx <| Zs ?_
  refine Za ?_
  refine Zx <| DC.ret ?_
  refine Zh ?_
  exact ⟨rfl, _, rfl⟩
 refine DC.skip <| Fin.then <| Zs ?_
 refine Za ?_
 refine Zx <| DC.ret ?_
 refine Zh ?_
 exact ⟨rfl, _, rfl⟩
theorem Dl {g i : Nat} {vb : Value} {bad : Int} {bs : List UInt8} {c : UInt8} {w : World} (hO : Own w (idsOf [rdC g vb i bad]) w [rdC g vb i bad]) (hB : ByV w vb bs) (ho : ByO vb bs (idsOf [rdC g vb i bad])) (hb : bs.length ≤ 33554432) :
  Calls Tryz.prog 78 #[.pointer (some ⟨g, 0, none⟩), .int .u8 c.toNat] w (Ret w (idsOf [rdC g vb i bad]) fun r M => ∃ b i' bad', r = .bool b ∧ M = [rdC g vb i' bad'] ∧ (b = true → bs[i]? = some c ∧ i' = i + 1 ∧ i' ≤ bs.length ∧ bad' = bad) ∧ (b = false → bs[i]? ≠ some c ∧ i' = i)) := by
 refine Ao (args := [_, _]) Tryz.func78 rfl Tryz.ntmps78 rfl hO ?_
 unfold rdC at ho ⊢
 refine Zs ?_
 refine Za ?_
 refine Zx <| DC.seq <| Zs ?_
 iterate 2 refine Zm ?_
 refine Seq.rel0 rfl rfl (Ar PP rfl rfl rfl (fun w hw => DN (i := i) (bad := bad) (hw.holds _ (TI ..)) (hB.keep ho hw))) ?_
 rintro _ ⟨b7, rfl, hb7⟩
 refine Zo (Bd rfl rfl) ?_
 refine Zx ?_
 refine Zd (fun c1 => ?_) fun c1 => ?_
 ·refine Zs ?_
  iterate 2 refine Zm ?_
  refine Zo (AH rfl rfl) ?_
  refine Zf BS ?_
  refine Zl AJ ?_
  refine Seq.gen rfl rfl (Bh IF rfl rfl rfl (Lc := [rdC g vb i bad]) (F := []) (.refl _) (fun k hk => hk) (fun w hw => BT hw.self)) ?_
  rintro _ _ ⟨_, ⟨rfl, bad', rfl⟩, rfl⟩
  refine Za ?_
  refine Zx <| DC.ret <| Aa ?_
  refine Zh ?_
  exact ⟨false, i, bad', rfl, rfl, by simp, fun _ => ⟨fun h => by rw [hb7.2 h] at c1; simp at c1, rfl⟩⟩
 have hbi : bs[i]? = some c := hb7.1 (by simpa using c1)
 have hil := (TA.1 hbi).1
 refine DC.skip <| Fin.then <| Zs ?_
 refine Zm ?_
 refine Zo (AH rfl rfl) ?_
 refine Zf BS ?_
 refine Zl AJ ?_
 refine Zp ?_
 refine Zo (AH rfl rfl) ?_
 refine Zf BS ?_
 refine Zy (AE (cs' := #[_, _, _]) rfl rfl rfl AQ rfl (TB rfl) rfl) ?_
 refine Zx <| Zs ?_
 refine Za ?_
 refine Zx <| DC.ret ?_
 refine Zh ?_
 exact ⟨true, i + 1, bad, rfl, rfl, fun _ => ⟨hbi, rfl, hil, rfl⟩, by simp⟩
theorem Dd {g i : Nat} {vb : Value} {bad : Int} {bs : List UInt8} {w : World} (hO : Own w (idsOf [rdC g vb i bad]) w [rdC g vb i bad]) (hB : ByV w vb bs) (ho : ByO vb bs (idsOf [rdC g vb i bad])) (hb : bs.length ≤ 33554432) (hil : i ≤ bs.length) :
  Calls Tryz.prog 79 #[.pointer (some ⟨g, 0, none⟩)] w (Ret w (idsOf [rdC g vb i bad]) fun r M => ∃ n fine j bad', r = .tuple #[.int .i64 n, .int .i64 i, .bool fine] ∧ M = [rdC g vb j bad'] ∧ (i ≤ j ∧ j ≤ bs.length) ∧ (fine = true → numP bs i = some (n, j) ∧ i < j ∧ bad' = bad ∧ 0 ≤ n ∧ n < 1000000000) ∧ (fine = false → numP bs i = none)) := by
 obtain ⟨A, cap, hvb, hR, hb1, hb2⟩ := id hB
 subst hvb
 refine Ao (args := [_]) Tryz.func79 rfl Tryz.ntmps79 rfl hO ?_
 unfold rdC at ho ⊢
 refine Zs ?_
 iterate 3 refine Za ?_
 refine Zx <| Zs ?_
 refine Zm ?_
 refine Zo (AH rfl rfl) ?_
 refine Zf BS ?_
 refine Zl AJ ?_
 refine Za ?_
 refine Zx ?_
 refine DC.cut (ι := Nat) (fun j => (i ≤ j ∧ j ≤ bs.length) ∧ (∀ p, i ≤ p → p < j → digAt bs p = true) ∧ ∀ c, bs[j]? = some c → isDig c = false) (fun j => [(0, .pointer (some ⟨g, 0, none⟩)), (2, .int .i64 (numAt bs i j)), (3, .int .i64 i)]) (fun j => [blk g 91 #[.slice A bs.length cap, .int .i64 (j : Nat), .int .i64 bad]]) ?firstb0 ?restb0
 case firstb0 =>
  refine DC.block ?_
  refine DC.loop (ι := Nat) (fun j => (i ≤ j ∧ j ≤ bs.length) ∧ ∀ p, i ≤ p → p < j → digAt bs p = true) (fun j => [(0, .pointer (some ⟨g, 0, none⟩)), (2, .int .i64 (numAt bs i j)), (3, .int .i64 i)]) (fun j => [blk g 91 #[.slice A bs.length cap, .int .i64 (j : Nat), .int .i64 bad]]) (fun j => bs.length - j) i ⟨⟨Nat.le_refl _, hil⟩, fun p h1 h2 => by omega⟩ ⟨rfl, by simp [numAt, decF]; rfl, rfl, trivial⟩ (.cons 0 rfl .nil) ?_
  rintro j ⟨⟨hij, hjl⟩, hdj⟩
  refine DC.seq <| DC.seq ?_
  refine AF (cl := [.q, .q, .q, .v, .q, .q, .q, .v, .q, .q, .q, .q, .q, .q, .v, .q, .q, .q, .v, .q, .v, .q, .q, .q, .q, .q, .q, .v, .q, .q, .q, .v, .q, .v, .q, .q]) (A := [0, 1, 3, 7, 0, 16, 48, 112, 240, 511, 1023, 2047, 4095, 8191, 16383, 2047, 34815, 100351, 231423, 524287, 1048575, 2097151, 4194303, 8388607, 16777215, 33554431, 67108863, 134217727, 16777215, 285212671, 822083583, 1895825407, 4294967295, 8589934591, 17179869183, 34359738367]) (order := [0, 1, 2, 3, 4, 5, 6, 7, 8, 9, 10, 11, 12, 13, 14, 15, 16, 17, 18, 19, 20, 21, 22, 23, 24, 25, 26, 27, 28, 29, 30, 31, 32, 33, 34, 35]) [] mixed (by kernel_rfl) (fun w hw => hw.pick .nil) ?_
  refine Ym ?_
  refine Yo rfl (AH rfl rfl) ?_
  refine Yf BS ?_
  refine Yl AJ ?_
  refine Ym ?_
  refine Yo rfl (AH rfl rfl) ?_
  refine Yf EL ?_
  refine Yl E4 ?_
  refine Yo rfl (CC rfl rfl TV) ?_
  refine Yo rfl (E7 rfl rfl rfl) ?_
  refine Ym ?_
  refine Flow.split 20 rfl (fun k2_10 => ?_) (fun k2_10 => ?_)
  ·have hjl' : j < bs.length := by simpa using k2_10
   obtain ⟨x, hx⟩ : ∃ c, bs[j]? = some c := ⟨_, Tz hjl'⟩
   obtain ⟨ad, rfl, hcell⟩ := hR.byte hx
   refine Ym ?_
   refine Yo rfl (AH rfl rfl) ?_
   refine Yf EL ?_
   refine Yl E4 ?_
   refine Ym ?_
   refine Yo rfl (AH rfl rfl) ?_
   refine Yf BS ?_
   refine Yl AJ ?_
   refine Yo rfl (Aj (ad' := ad.add j) rfl rfl rfl TV Dw (by omega) (by omega) (by rw [TC])) ?_
   refine Am rfl rfl rfl rfl (Ai rfl rfl Qo (hB.has ho hx)) ?_
   refine Yo rfl (Cc rfl rfl rfl) ?_
   refine Yo rfl (A7 rfl rfl rfl) ?_
   refine Ym ?_
   refine Flow.split 33 rfl (fun k2_23 => ?_) (fun k2_23 => ?_)
   ·refine Ym ?_
    refine Yo rfl (AH rfl rfl) ?_
    refine Yf EL ?_
    refine Yl E4 ?_
    refine Ym ?_
    refine Yo rfl (AH rfl rfl) ?_
    refine Yf BS ?_
    refine Yl AJ ?_
    refine Yo rfl (Aj (ad' := ad.add j) rfl rfl rfl TV Dw (by omega) (by omega) (by rw [TC])) ?_
    refine Am rfl rfl rfl rfl (Ai rfl rfl Qo (hB.has ho hx)) ?_
    refine Yo rfl (HF rfl rfl rfl) ?_
    refine Yo rfl (A7 rfl rfl rfl) ?_
    refine Flow.end rfl ?_
    simp only [zq, zr]
    refine Fin.then ?_
    refine Zd (fun c2 => ?_) fun c2 => ?_
    ·have hd : isDig x = true := by simp at k2_23 c2; simp [isDig]; omega
     have hcn := J9 hd
     have hnb := Gk hdj hij hjl
     have hst := HL hij hx
     refine DC.skip <| Fin.then <| DC.block <| DC.seq <| Zs ?_
     refine Zm ?_
     refine Zo (AH rfl rfl) ?_
     refine Zf BS ?_
     refine Zl AJ ?_
     refine Zm ?_
     refine Zo (Bv rfl rfl rfl (by omega)) ?_
     refine Zc ?_
     refine Zx ?_
     refine Zd (fun c3 => ?_) fun c3 => ?_
     ·refine AF (cl := [.q, .q, .q, .q, .q, .v, .q, .q, .q, .v, .q, .v, .q, .q, .q, .q]) (A := [0, 1, 0, 4, 12, 28, 0, 64, 192, 448, 1020, 2044, 4092, 8188, 16383, 32767]) (order := [0, 1, 2, 3, 4, 5, 6, 7, 8, 9, 10, 11, 12, 13, 14, 15]) [] mixed (by kernel_rfl) (fun w hw => hw.pick .nil) ?_
      refine Ym ?_
      refine Yo rfl (Cl rfl rfl rfl (by omega)) ?_
      refine Ym ?_
      refine Yo rfl (AH rfl rfl) ?_
      refine Yf EL ?_
      refine Yl E4 ?_
      refine Ym ?_
      refine Yo rfl (AH rfl rfl) ?_
      refine Yf BS ?_
      refine Yl AJ ?_
      refine Yo rfl (Aj (ad' := ad.add j) rfl rfl rfl TV Dw (by omega) (by omega) (by rw [TC])) ?_
      refine Am rfl rfl rfl rfl (Ai rfl rfl Qo (hB.has ho hx)) ?_
      refine Yo rfl (O8 rfl rfl rfl (by omega)) ?_
      refine Yo rfl (HG rfl rfl Tryz.underlying5 Tryz.underlying3 (by omega) (by omega)) ?_
      refine Yo rfl (CI rfl rfl rfl (by omega)) ?_
      refine Yo rfl (AR rfl rfl) ?_
      refine Flow.end rfl ?_
      simp only [zq, zr]
      refine Fin.then <| DC.region ?_
      refine Zm ?_
      refine Zo (AH rfl rfl) ?_
      refine Zf BS ?_
      refine Zl AJ ?_
      refine Zp ?_
      refine Zo (AH rfl rfl) ?_
      refine Zf BS ?_
      refine Zy (AE (cs' := #[_, _, _]) rfl rfl rfl AQ rfl (TB rfl) rfl) ?_
      refine Seq.nil <| Fin.inBlock ?_
      refine Ag (j + 1) (by omega) ⟨by omega, fun p h1 h2 => ?_⟩ ⟨rfl, ?_, rfl, trivial⟩ (.cons' 0 rfl (by simp) .nil)
      ·by_cases hp : p = j
       ·subst hp; simp [digAt, hx, hd]
       exact hdj p h1 (by omega)
      rw [hst]
      simp at c3
      first
      | (rw [if_pos (by omega)]; rfl)
      | (rw [if_neg (by omega)]; rfl)
     refine DC.skip <| Fin.then <| DC.region ?_
     refine Zm ?_
     refine Zo (AH rfl rfl) ?_
     refine Zf BS ?_
     refine Zl AJ ?_
     refine Zp ?_
     refine Zo (AH rfl rfl) ?_
     refine Zf BS ?_
     refine Zy (AE (cs' := #[_, _, _]) rfl rfl rfl AQ rfl (TB rfl) rfl) ?_
     refine Seq.nil <| Fin.inBlock ?_
     refine Ag (j + 1) (by omega) ⟨by omega, fun p h1 h2 => ?_⟩ ⟨rfl, ?_, rfl, trivial⟩ (.cons' 0 rfl (by simp) .nil)
     ·by_cases hp : p = j
      ·subst hp; simp [digAt, hx, hd]
      exact hdj p h1 (by omega)
     rw [hst]
     simp at c3
     first
     | (rw [if_pos (by omega)]; rfl)
     | (rw [if_neg (by omega)]; rfl)
    refine DC.exit <| Ad <| Ad <| Ah ?_
    refine AG j ⟨⟨hij, hjl⟩, hdj, fun c hc => ?_⟩ ⟨rfl, rfl, rfl, trivial⟩ (.cons 0 rfl .nil)
    first
    | (rw [TQ hjl'] at hc; cases hc)
    | (rw [hx] at hc; cases hc
       simp at k2_23
       simp [isDig]; omega)
    | (rw [hx] at hc; cases hc
       simp at k2_23 c2
       simp [isDig]; omega)
   iterate 11 refine Yk ?_
   refine Yo rfl (AZ rfl rfl rfl) ?_
   refine Flow.end rfl ?_
   simp only [zq, zr]
   refine Fin.then ?_
   refine AT rfl ?_
   refine DC.exit <| Ad <| Ad <| Ah ?_
   refine AG j ⟨⟨hij, hjl⟩, hdj, fun c hc => ?_⟩ ⟨rfl, rfl, rfl, trivial⟩ (.cons 0 rfl .nil)
   first
   | (rw [TQ hjl'] at hc; cases hc)
   | (rw [hx] at hc; cases hc
      simp at k2_23
      simp [isDig]; omega)
   | (rw [hx] at hc; cases hc
      simp at k2_23 c2
      simp [isDig]; omega)
  have hjl' : bs.length ≤ j := by simpa using k2_10
  iterate 11 refine Yk ?_
  refine Yo rfl (AZ rfl rfl rfl) ?_
  refine Ym ?_
  iterate 11 refine Yk ?_
  refine Yo rfl (AZ rfl rfl rfl) ?_
  refine Flow.end rfl ?_
  simp only [zq, zr]
  refine Fin.then ?_
  refine AT rfl ?_
  refine DC.exit <| Ad <| Ad <| Ah ?_
  refine AG j ⟨⟨hij, hjl⟩, hdj, fun c hc => ?_⟩ ⟨rfl, rfl, rfl, trivial⟩ (.cons 0 rfl .nil)
  first
  | (rw [TQ hjl'] at hc; cases hc)
  | (rw [hx] at hc; cases hc
     simp at k2_23
     simp [isDig]; omega)
  | (rw [hx] at hc; cases hc
     simp at k2_23 c2
     simp [isDig]; omega)
 rintro j ⟨⟨hij, hjl⟩, hdj, hend⟩
 have hkd : digs (bs.drop i) = j - i := by
  rw [H6 (j - i) i (fun p h1 h2 => CV (hdj p h1 (by omega))), show i + (j - i) = j by omega, LB hend, Nat.add_zero]
 have hnb := Gk hdj hij hjl
 refine Zs ?_
 refine Zm ?_
 refine Zo (AH rfl rfl) ?_
 refine Zf BS ?_
 refine Zl AJ ?_
 refine Zm ?_
 refine Zo (Bv rfl rfl rfl (by omega)) ?_
 refine Za ?_
 refine Zx <| DC.seq <| Zs ?_
 refine Zm ?_
 refine Zo (AN rfl rfl rfl) ?_
 refine Zm ?_
 refine Seq.split 83 rfl (fun k7_2 => ?_) (fun k7_2 => ?_)
 ·refine Zk ?_
  refine Zk ?_
  refine Zt ?_
  refine Zm ?_
  iterate 12 refine Zk ?_
  refine Zt ?_
  refine Zx ?_
  refine AI rfl ?_
  refine Zs ?_
  iterate 3 refine Zm ?_
  refine Seq.gen rfl rfl (Bh IF rfl rfl rfl (Lc := [rdC g _ j bad]) (F := []) (.refl _) (fun k hk => hk) (fun w hw => BT hw.self)) ?_
  rintro _ _ ⟨_, ⟨rfl, bad', rfl⟩, rfl⟩
  iterate 3 refine Za ?_
  refine Zx <| DC.ret <| Aa ?_
  refine Bo (.inl rfl) rfl rfl rfl rfl ?_
  first
  | (refine ⟨0, false, j, bad', rfl, rfl, ⟨hij, hjl⟩, by simp, fun _ => ?_⟩
     unfold numP
     rw [if_pos]
     rw [hkd]
     first
     | (left; simp at k7_2; omega)
     | (right; left; simp at k7_6; omega)
     | (right; right; refine ⟨hk1, ?_⟩; rw [hx]; simp at c7; rw [show x = 48 from Hf.1 (by simpa using c7)]))
  | (refine ⟨numAt bs i j, true, j, bad, rfl, rfl, ⟨hij, hjl⟩, fun _ => ⟨?_, ?_, rfl, hnb.1, hnb.2⟩, by simp⟩
     ·unfold numP
      rw [if_neg, hkd, show i + (j - i) = j by omega]
      rw [hkd]
      rintro (h | h | ⟨h1, h2⟩)
      ·simp at k7_2; omega
      ·simp at k7_6; omega
      ·first
       | (simp at k7_9; omega)
       | (rw [hx] at h2; cases h2; simp at c7)
     ·simp at k7_2; omega)
 refine Zm ?_
 refine Zo (Bs rfl rfl rfl) ?_
 refine Zg ?_
 refine Zm ?_
 refine Seq.split 87 rfl (fun k7_6 => ?_) (fun k7_6 => ?_)
 ·refine Zk ?_
  iterate 11 refine Zk ?_
  refine Zt ?_
  refine Zx ?_
  refine AI rfl ?_
  refine Zs ?_
  iterate 3 refine Zm ?_
  refine Seq.gen rfl rfl (Bh IF rfl rfl rfl (Lc := [rdC g _ j bad]) (F := []) (.refl _) (fun k hk => hk) (fun w hw => BT hw.self)) ?_
  rintro _ _ ⟨_, ⟨rfl, bad', rfl⟩, rfl⟩
  iterate 3 refine Za ?_
  refine Zx <| DC.ret <| Aa ?_
  refine Bo (.inl rfl) rfl rfl rfl rfl ?_
  first
  | (refine ⟨0, false, j, bad', rfl, rfl, ⟨hij, hjl⟩, by simp, fun _ => ?_⟩
     unfold numP
     rw [if_pos]
     rw [hkd]
     first
     | (left; simp at k7_2; omega)
     | (right; left; simp at k7_6; omega)
     | (right; right; refine ⟨hk1, ?_⟩; rw [hx]; simp at c7; rw [show x = 48 from Hf.1 (by simpa using c7)]))
  | (refine ⟨numAt bs i j, true, j, bad, rfl, rfl, ⟨hij, hjl⟩, fun _ => ⟨?_, ?_, rfl, hnb.1, hnb.2⟩, by simp⟩
     ·unfold numP
      rw [if_neg, hkd, show i + (j - i) = j by omega]
      rw [hkd]
      rintro (h | h | ⟨h1, h2⟩)
      ·simp at k7_2; omega
      ·simp at k7_6; omega
      ·first
       | (simp at k7_9; omega)
       | (rw [hx] at h2; cases h2; simp at c7)
     ·simp at k7_2; omega)
 refine Zm ?_
 refine Zo (Bs rfl rfl rfl) ?_
 refine Zm ?_
 refine Seq.split 90 rfl (fun k7_9 => ?_) (fun k7_9 => ?_)
 ·have hk1 : 1 < j - i := by simp at k7_9; omega
  obtain ⟨x, hx⟩ : ∃ c, bs[i]? = some c := ⟨_, Tz (by omega)⟩
  obtain ⟨ad, rfl, hcell⟩ := hR.byte hx
  refine Zm ?_
  refine Zo (AH rfl rfl) ?_
  refine Zf EL ?_
  refine Zl E4 ?_
  refine Zm ?_
  refine Zo (Aj (ad' := ad.add i) rfl rfl rfl TV Dw (by omega) (by omega) (by rw [TC])) ?_
  refine Zu (Ai rfl rfl Qo (hB.has ho hx)) ?_
  refine Zo (AN rfl rfl rfl) ?_
  refine Zt ?_
  refine Zg ?_
  refine Zx ?_
  refine Zd (fun c7 => ?_) fun c7 => ?_
  ·refine Zs ?_
   iterate 3 refine Zm ?_
   refine Seq.gen rfl rfl (Bh IF rfl rfl rfl (Lc := [rdC g _ j bad]) (F := []) (.refl _) (fun k hk => hk) (fun w hw => BT hw.self)) ?_
   rintro _ _ ⟨_, ⟨rfl, bad', rfl⟩, rfl⟩
   iterate 3 refine Za ?_
   refine Zx <| DC.ret <| Aa ?_
   refine Bo (.inl rfl) rfl rfl rfl rfl ?_
   first
   | (refine ⟨0, false, j, bad', rfl, rfl, ⟨hij, hjl⟩, by simp, fun _ => ?_⟩
      unfold numP
      rw [if_pos]
      rw [hkd]
      first
      | (left; simp at k7_2; omega)
      | (right; left; simp at k7_6; omega)
      | (right; right; refine ⟨hk1, ?_⟩; rw [hx]; simp at c7; rw [show x = 48 from Hf.1 (by simpa using c7)]))
   | (refine ⟨numAt bs i j, true, j, bad, rfl, rfl, ⟨hij, hjl⟩, fun _ => ⟨?_, ?_, rfl, hnb.1, hnb.2⟩, by simp⟩
      ·unfold numP
       rw [if_neg, hkd, show i + (j - i) = j by omega]
       rw [hkd]
       rintro (h | h | ⟨h1, h2⟩)
       ·simp at k7_2; omega
       ·simp at k7_6; omega
       ·first
        | (simp at k7_9; omega)
        | (rw [hx] at h2; cases h2; simp at c7)
      ·simp at k7_2; omega)
  refine DC.skip <| Fin.then <| Zs ?_
  iterate 2 refine Zm ?_
  iterate 3 refine Za ?_
  refine Zx <| DC.ret ?_
  refine Bo (.inl rfl) rfl rfl rfl rfl ?_
  first
  | (refine ⟨0, false, j, bad', rfl, rfl, ⟨hij, hjl⟩, by simp, fun _ => ?_⟩
     unfold numP
     rw [if_pos]
     rw [hkd]
     first
     | (left; simp at k7_2; omega)
     | (right; left; simp at k7_6; omega)
     | (right; right; refine ⟨hk1, ?_⟩; rw [hx]; simp at c7; rw [show x = 48 from Hf.1 (by simpa using c7)]))
  | (refine ⟨numAt bs i j, true, j, bad, rfl, rfl, ⟨hij, hjl⟩, fun _ => ⟨?_, ?_, rfl, hnb.1, hnb.2⟩, by simp⟩
     ·unfold numP
      rw [if_neg, hkd, show i + (j - i) = j by omega]
      rw [hkd]
      rintro (h | h | ⟨h1, h2⟩)
      ·simp at k7_2; omega
      ·simp at k7_6; omega
      ·first
       | (simp at k7_9; omega)
       | (rw [hx] at h2; cases h2; simp at c7)
     ·simp at k7_2; omega)
 iterate 8 refine Zk ?_
 iterate 2 refine Zg ?_
 refine Zx ?_
 refine AT rfl ?_
 refine DC.skip <| Fin.then <| Zs ?_
 iterate 2 refine Zm ?_
 iterate 3 refine Za ?_
 refine Zx <| DC.ret ?_
 refine Bo (.inl rfl) rfl rfl rfl rfl ?_
 first
 | (refine ⟨0, false, j, bad', rfl, rfl, ⟨hij, hjl⟩, by simp, fun _ => ?_⟩
    unfold numP
    rw [if_pos]
    rw [hkd]
    first
    | (left; simp at k7_2; omega)
    | (right; left; simp at k7_6; omega)
    | (right; right; refine ⟨hk1, ?_⟩; rw [hx]; simp at c7; rw [show x = 48 from Hf.1 (by simpa using c7)]))
 | (refine ⟨numAt bs i j, true, j, bad, rfl, rfl, ⟨hij, hjl⟩, fun _ => ⟨?_, ?_, rfl, hnb.1, hnb.2⟩, by simp⟩
    ·unfold numP
     rw [if_neg, hkd, show i + (j - i) = j by omega]
     rw [hkd]
     rintro (h | h | ⟨h1, h2⟩)
     ·simp at k7_2; omega
     ·simp at k7_6; omega
     ·first
      | (simp at k7_9; omega)
      | (rw [hx] at h2; cases h2; simp at c7)
    ·simp at k7_2; omega)
def listGo (bs : List UInt8) : Nat → Nat → List Int → Option (List Int × Nat)
 | 0, _, _ => none
 | f + 1, i, acc => match numP bs i with
  | none => none
  | some (n, j) => if 0 < acc.length ∧ n < acc.headD 0 then none else if bs[j]? = some 32 then listGo bs f (j + 1) (acc ++ [n]) else if bs[j]? = some 10 then some (acc ++ [n], j + 1) else none
/-- A line of numbers of a certificate's text, and the place behind it. -/
def listP (bs : List UInt8) (i : Nat) : Option (List Int × Nat) := if bs[i]? = some 10 then some ([], i + 1) else listGo bs (bs.length + 1) i []
theorem Lp {P : Program} {w0 : World} {K : List Nat} {n : Nat} {ds : List Deferred} {E : Env} {L F : List Chunk} {o : Oper} {t m : Nat} {vs : List Value} (h : Gen P w0 K n ds E L o (fun v' M => M = slc v' t m vs :: F)) : Gen P w0 K n ds E L o (fun v' M => (∃ A l c, v' = .slice A l c ∧ vs.length = l * m) ∧ M = slc v' t m vs :: F) := by
 intro a w ha hw
 refine (h a w ha hw).mono ?_
 rintro v w' ⟨L', rfl, hO⟩
 obtain ⟨A, len, cap, e, h1, _⟩ := BW hO
 exact ⟨_, ⟨⟨A, len, cap, e, h1⟩, rfl⟩, hO⟩
structure LsI where
 i : Nat
 f : Nat
 v : Value
 acc : List Int
theorem LG {g i : Nat} {vb : Value} {bad : Int} {bs : List UInt8} {w : World} (hO : Own w (idsOf [rdC g vb i bad]) w [rdC g vb i bad]) (hB : ByV w vb bs) (ho : ByO vb bs (idsOf [rdC g vb i bad])) (hb : bs.length ≤ 33554432) (hil : i ≤ bs.length) :
  Calls Tryz.prog 80 #[.pointer (some ⟨g, 0, none⟩)] w (Ret w (idsOf [rdC g vb i bad]) fun r M => ∃ v ok xs j bad', r = .tuple #[v, .bool ok] ∧ M = [rdC g vb j bad', slc v 3 1 (ints xs)] ∧ (i ≤ j ∧ j ≤ bs.length ∧ xs.length ≤ bs.length) ∧ (ok = true → listP bs i = some (xs, j)) ∧ (ok = false → listP bs i = none)) := by
 have hoid : ∀ (j : Nat) (b : Int), idsOf [rdC g vb j b] = idsOf [rdC g vb i bad] := fun _ _ => rfl
 refine Ao (args := [_]) Tryz.func80 rfl Tryz.ntmps80 rfl hO ?_
 unfold rdC at ho ⊢
 refine Zs ?_
 iterate 2 refine Za ?_
 refine Zx <| DC.seq <| Zs ?_
 refine Zm ?_
 refine Seq.rel0 rfl rfl (Ar PP rfl rfl rfl (fun w hw => DN (i := i) (bad := bad) (c := 10) (hw.holds _ (TI ..)) (hB.keep ho hw))) ?_
 rintro _ ⟨b9, rfl, hb9⟩
 refine Zx ?_
 refine Zd (fun c1 => ?_) fun c1 => ?_
 ·have hbi : bs[i]? = some 10 := hb9.1 (by simpa using c1)
  have hilt := (TA.1 hbi).1
  refine Zs ?_
  refine Zm ?_
  refine Zo (AH rfl rfl) ?_
  refine Zf BS ?_
  refine Zl AJ ?_
  refine Zp ?_
  refine Zo (AH rfl rfl) ?_
  refine Zf BS ?_
  refine Zy (AE (cs' := #[_, _, _]) rfl rfl rfl AQ rfl (TB rfl) rfl) ?_
  refine Zx <| Zs ?_
  iterate 2 refine Za ?_
  refine Zx <| DC.ret <| Aa ?_
  refine Fin.own (M := [blk g 91 #[vb, .int .i64 (i + 1 : Nat), .int .i64 bad], slc (.slice none 0 0) 3 1 (ints [])]) (fun w hw => (AX (t := 3) (m := 1) hw).perm (List.Perm.swap _ _ _)) ?_
  refine AL (.inl rfl) rfl rfl rfl ?_
  exact ⟨.slice none 0 0, true, [], i + 1, bad, rfl, rfl, ⟨by omega, hilt, by simp⟩, fun _ => by simp [listP, hbi], by simp⟩
 have hbi : ¬ bs[i]? = some 10 := fun h => by rw [hb9.2 h] at c1; simp at c1
 have hlP : listP bs i = listGo bs (bs.length + 1) i [] := by rw [listP, if_neg hbi]
 refine DC.skip <| Fin.then <| Zs ?_
 refine Za ?_
 refine Zx <| DC.block ?_
 refine DC.own (fun w hw => AX (t := 3) (m := 1) hw) ?_
 refine DC.loop (ι := LsI) (fun q => (i ≤ q.i ∧ q.i ≤ bs.length) ∧ q.acc.length ≤ q.i ∧ bs.length + 1 ≤ q.f + q.i ∧ listP bs i = listGo bs q.f q.i q.acc) (fun q => [(0, .pointer (some ⟨g, 0, none⟩)), (4, q.v)])
  (fun q => [blk g 91 #[vb, .int .i64 q.i, .int .i64 bad], slc q.v 3 1 (ints q.acc)]) (fun q => bs.length - q.i) ⟨i, bs.length + 1, .slice none 0 0, []⟩ ⟨⟨Nat.le_refl _, hil⟩, Nat.zero_le _, by dsimp only; omega, hlP⟩ ⟨rfl, rfl, trivial⟩ (.cons 1 rfl (.cons 0 rfl .nil)) ?_
 rintro ⟨a, f, v4, acc⟩ ⟨⟨hia, hal⟩, haa, hf, hgo⟩
 dsimp only at hia hal haa hf hgo ⊢
 obtain ⟨f, rfl⟩ : ∃ f', f = f' + 1 := ⟨f - 1, by omega⟩
 refine DC.slcs (i := 1) (v := v4) rfl (by omega) ?_
 rintro A4 c4 rfl hA4
 refine DC.block <| Zs ?_
 refine Zm ?_
 refine Seq.gen rfl rfl (Bh QX rfl rfl rfl (Lc := [rdC g vb a bad]) (F := [slc (.slice A4 acc.length c4) 3 1 (ints acc)]) (.refl _) (fun k hk => hk) (fun w hw => Dd (hw.sub (L' := [rdC g vb a bad]) (.cons_cons _ (TH _))).self (hB.keep ho hw) (ByO.step (L := [rdC g vb a bad]) hB ho (hw.sub (.cons_cons _ (TH _)))) hb hal)) ?_
 rintro _ _ ⟨_, ⟨n, fine, j, bad', rfl, rfl, ⟨haj, hjl⟩, hyes, hno⟩, rfl⟩
 refine Zm ?_
 iterate 3 refine Ze ?_
 iterate 3 refine Za ?_
 refine Zx <| DC.seq <| DC.seq ?_
 simp only [zs]
 unfold rdC
 have hgo1 : numP bs a = none → listP bs i = none := fun h => by rw [hgo, listGo, h]
 refine DC.region ?_
 refine Zm ?_
 refine Zo (Bd rfl rfl) ?_
 refine Zx ?_
 refine Zd (fun c6 => ?_) fun c6 => ?_
 ·refine Zs ?_
  iterate 2 refine Za ?_
  refine Zx <| DC.ret <| Aa <| Ae <| Aa <| Ae ?_
  refine Fin.own (M := [blk g 91 #[vb, .int .i64 (j : Nat), .int .i64 bad'], slc (.slice none 0 0) 3 1 (ints [])]) (fun w hw => (AX (t := 3) (m := 1) (hw.sub (L' := [blk g 91 #[vb, .int .i64 (j : Nat), .int .i64 bad']]) (.cons_cons _ (TH _)))).perm (List.Perm.swap _ _ _)) ?_
  refine AL (.inl rfl) rfl rfl rfl ?_
  exact ⟨.slice none 0 0, false, [], j, bad', rfl, rfl, ⟨by omega, hjl, by simp⟩, by simp, fun _ => hgo1 (hno (by simpa using c6))⟩
 obtain ⟨hnum, haj', rfl, hn0, hn1⟩ := hyes (by simpa using c6)
 rw [listGo, hnum] at hgo
 dsimp only at hgo
 refine DC.skip <| Fin.then ?_
 refine DC.cut (ι := Option Addr) (fun A => ¬ (0 < acc.length ∧ n < acc.headD 0)) (fun A => [(0, .pointer (some ⟨g, 0, none⟩)), (4, .slice A acc.length c4), (5, .int .i64 n)])
  (fun A => [blk g 91 #[vb, .int .i64 (j : Nat), .int .i64 bad'], slc (.slice A acc.length c4) 3 1 (ints acc)]) ?first9 ?rest9
 case first9 =>
  refine Zs ?_
  refine Zm ?_
  refine Zn TT ?_
  refine Zo (Bs rfl rfl rfl) ?_
  refine Zm ?_
  refine Seq.split 28 rfl (fun k8_3 => ?_) (fun k8_3 => ?_)
  ·have hacc : 0 < acc.length := by simp at k8_3; omega
   obtain ⟨x0, hx0⟩ : ∃ x, acc[0]? = some x := ⟨_, Tz hacc⟩
   obtain ⟨ad4, rfl⟩ := hA4 (List.ne_nil_of_length_pos hacc)
   have hhd : acc.headD 0 = x0 := by
    cases acc with
    | nil => cases hx0
    | cons a r => simpa using hx0
   iterate 2 refine Zm ?_
   refine Zo (Aj (ad' := ad4.add 0) rfl rfl rfl TT AQ (by omega) (by omega) rfl) ?_
   refine Zu (Ai rfl rfl AJ (BU (i := 1) rfl hx0 (by omega))) ?_
   refine Zc ?_
   refine Zt ?_
   refine Zx ?_
   refine Zd (fun c8 => ?_) fun c8 => ?_
   ·have hbad : 0 < acc.length ∧ n < acc.headD 0 := ⟨hacc, by rw [hhd]; simp at c8; omega⟩
    rw [if_pos hbad] at hgo
    refine Zs ?_
    iterate 2 refine Zm ?_
    refine Seq.gen rfl rfl (Bh IF rfl rfl rfl (Lc := [rdC g vb j bad']) (F := [slc (.slice (some ad4) acc.length c4) 3 1 (ints acc)]) (.refl _) (fun k hk => hk) (fun w hw => BT (hw.sub (L' := [rdC g vb j bad']) (.cons_cons _ (TH _))).self)) ?_
    rintro _ _ ⟨_, ⟨rfl, bad2, rfl⟩, rfl⟩
    iterate 2 refine Za ?_
    refine Zx <| DC.ret <| Aa <| Ae <| Aa <| Ae ?_
    refine Fin.own (M := [blk g 91 #[vb, .int .i64 (j : Nat), .int .i64 bad2], slc (.slice none 0 0) 3 1 (ints [])]) (fun w hw => (AX (t := 3) (m := 1) (hw.sub (L' := [blk g 91 #[vb, .int .i64 (j : Nat), .int .i64 bad2]]) (.cons_cons _ (TH _)))).perm (List.Perm.swap _ _ _)) ?_
    refine AL (.inl rfl) rfl rfl rfl ?_
    exact ⟨.slice none 0 0, false, [], j, bad2, rfl, rfl, ⟨by omega, hjl, by simp⟩, by simp, fun _ => hgo⟩
   refine DC.skip ?_
   refine AG _ ?_ ⟨rfl, rfl, rfl, trivial⟩ (.cons 0 rfl (.cons 0 rfl .nil))
   first
   | (rintro ⟨h1, h2⟩; rw [hhd] at h2; simp at c8; omega)
   | (rintro ⟨h1, h2⟩; have := of_decide_eq_false k8_3; omega)
  iterate 5 refine Zk ?_
  refine Zg ?_
  refine Zx ?_
  refine AT rfl ?_
  refine DC.skip ?_
  refine AG _ ?_ ⟨rfl, rfl, rfl, trivial⟩ (.cons 0 rfl (.cons 0 rfl .nil))
  first
  | (rintro ⟨h1, h2⟩; rw [hhd] at h2; simp at c8; omega)
  | (rintro ⟨h1, h2⟩; have := of_decide_eq_false k8_3; omega)
 intro A5 hgood
 rw [if_neg hgood] at hgo
 refine Zs ?_
 iterate 2 refine Zm ?_
 refine Zw (AP (cs := #[_]) rfl rfl TT AQ B0 rfl (by decide) (by decide) rfl rfl) fun g40 => ?_
 refine Seq.gen rfl rfl (Lp (AK (F := [blk g40 3 #[.int .i64 n], blk g 91 #[vb, .int .i64 (j : Nat), .int .i64 bad']]) (vs := ints acc) (k := 1) (news := [.int .i64 n]) rfl rfl rfl TT AQ DE B0 rfl (by decide) (by decide)
  (fun w hw => hw.pick (.cons 2 rfl (.cons 0 rfl (.cons 0 rfl .nil)))) (.inl ⟨_, _, rfl, Ak rfl⟩) rfl (Bm [_] []) (by rw [ints_length]; omega))) ?_
 rintro _ _ ⟨⟨A41, l41, c41, rfl, hl41⟩, rfl⟩
 obtain rfl : l41 = acc.length + 1 := by simp at hl41; omega
 refine Za ?_
 refine Seq.nil ?_
 refine Fin.weak (E' := [(0, .pointer (some ⟨g, 0, none⟩)), (4, .slice A41 (acc.length + 1) c41)]) ⟨rfl, rfl, trivial⟩ (L' := [blk g 91 #[vb, .int .i64 (j : Nat), .int .i64 bad'], slc (.slice A41 (acc.length + 1) c41) 3 1 (ints (acc ++ [n]))]) (.cons 2 rfl (.cons' 0 rfl (by rw [AU]; rfl) .nil)) ?_
 refine Fin.then <| DC.seq <| Zs ?_
 refine Zm ?_
 refine Seq.rel0 rfl rfl (Ar PP rfl rfl rfl (fun w hw => DN (i := j) (bad := bad') (c := 32) (hw.holds _ (TI ..)) (hB.keep ho hw))) ?_
 rintro _ ⟨b43, rfl, hb43⟩
 refine Zx ?_
 refine Zd (fun c11 => ?_) fun c11 => ?_
 ·have hbj : bs[j]? = some 32 := hb43.1 (by simpa using c11)
  have hjlt := (TA.1 hbj).1
  rw [if_pos hbj] at hgo
  refine Zs ?_
  refine Zm ?_
  refine Zo (AH rfl rfl) ?_
  refine Zf BS ?_
  refine Zl AJ ?_
  refine Zp ?_
  refine Zo (AH rfl rfl) ?_
  refine Zf BS ?_
  refine Zy (AE (cs' := #[_, _, _]) rfl rfl rfl AQ rfl (TB rfl) rfl) ?_
  refine Zx <| DC.exit <| Ad <| Ah ?_
  exact Ag ⟨j + 1, f, .slice A41 (acc.length + 1) c41, acc ++ [n]⟩ (by dsimp only; omega) ⟨⟨by dsimp only; omega, by dsimp only; omega⟩, by simp; omega, by dsimp only; omega, hgo⟩ ⟨rfl, rfl, trivial⟩ (.cons 0 rfl (.cons 0 rfl .nil))
 have hbj : ¬ bs[j]? = some 32 := fun h => by rw [hb43.2 h] at c11; simp at c11
 rw [if_neg hbj] at hgo
 refine DC.skip <| Fin.then <| Zs ?_
 iterate 2 refine Zm ?_
 refine Seq.gen rfl rfl (Bh PO rfl rfl rfl (Lc := [rdC g vb j bad']) (F := [slc (.slice A41 (acc.length + 1) c41) 3 1 (ints (acc ++ [n]))]) (.refl _) (fun k hk => hk) (fun w hw => Dl (c := 10) (hw.sub (L' := [rdC g vb j bad']) (.cons_cons _ (TH _))).self (hB.keep ho hw) (ByO.step (L := [rdC g vb j bad']) hB ho (hw.sub (.cons_cons _ (TH _)))) hb)) ?_
 rintro _ _ ⟨_, ⟨b53, j', bad3, rfl, rfl, hw1, hw2⟩, rfl⟩
 iterate 2 refine Za ?_
 refine Zx <| DC.ret <| Ae <| Aa <| Ae ?_
 refine AL (.inl rfl) rfl rfl rfl ?_
 refine ⟨_, b53, acc ++ [n], j', bad3, rfl, rfl, ?_, fun h => ?_, fun h => ?_⟩
 ·cases b53 with
  | true => obtain ⟨_, h2, h3, _⟩ := hw1 rfl; exact ⟨by omega, h3, by simp; omega⟩
  | false => obtain ⟨_, h2⟩ := hw2 rfl; exact ⟨by omega, by omega, by simp; omega⟩
 ·obtain ⟨h1, h2, _⟩ := hw1 h
  rw [hgo, if_pos h1, h2]
 rw [hgo, if_neg (hw2 h).1]
theorem Fq (a : Int) (w : World) : Calls Tryz.prog 85 #[.int .i64 a] w (Ret w [] fun v L => L = [] ∧ ∃ b, v = .bool b ∧ (b = true ↔ Fits a)) := by
 refine Ao (args := [_]) (L := []) Tryz.func85 rfl Tryz.ntmps85 rfl (Own.start _ _) ?_
 refine Zs ?_
 refine Za ?_
 refine Zx <| Zs ?_
 refine Zm ?_
 refine Zo (Cc rfl rfl rfl) ?_
 refine Zm ?_
 refine Seq.split 5 rfl (fun k1_2 => ?_) (fun k1_2 => ?_)
 ·refine Zm ?_
  refine Zo (HF rfl rfl rfl) ?_
  refine Zt ?_
  refine Za ?_
  refine Zx <| DC.ret ?_
  refine Zh ?_
  refine ⟨rfl, _, rfl, ?_⟩
  unfold Fits
  simp_all
  try omega
 iterate 2 refine Zk ?_
 refine Zg ?_
 refine Za ?_
 refine Zx <| DC.ret ?_
 refine Zh ?_
 refine ⟨rfl, _, rfl, ?_⟩
 unfold Fits
 simp_all
 try omega
theorem GJ (a b c d : Int) (w : World) : Calls Tryz.prog 86 #[.agg #[.int .i64 a, .int .i64 b], .agg #[.int .i64 c, .int .i64 d]] w (Ret w [] fun v L => L = [] ∧ ∃ r, v = .bool r ∧ (r = true ↔ Lex (a, b) (c, d))) := by
 refine Ao (args := [_, _]) (L := []) Tryz.func86 rfl Tryz.ntmps86 rfl (Own.start _ _) ?_
 refine Zs ?_
 refine Zw (Ba rfl rfl rfl) fun g2 => ?_
 refine Zw (Ba rfl rfl rfl) fun g3 => ?_
 refine Za ?_
 refine Zx <| Zs ?_
 refine Zf Bb ?_
 refine Zl AJ ?_
 refine Zf Bb ?_
 refine Zl AJ ?_
 refine Zo (Bs rfl rfl rfl) ?_
 refine Zm ?_
 refine Seq.split 10 rfl (fun k1_5 => ?_) (fun k1_5 => ?_)
 ·refine Zk ?_
  iterate 11 refine Zk ?_
  refine Zt ?_
  refine Za ?_
  refine Zx <| DC.ret ?_
  refine Fin.weak (E' := [(4, _)]) ⟨rfl, trivial⟩ .nil ?_
  refine Zh ?_
  refine ⟨rfl, _, rfl, ?_⟩
  unfold Lex
  simp_all
  try omega
 refine Zf Bb ?_
 refine Zl AJ ?_
 refine Zf Bb ?_
 refine Zl AJ ?_
 refine Zo (AN rfl rfl rfl) ?_
 refine Zm ?_
 refine Seq.split 16 rfl (fun k1_11 => ?_) (fun k1_11 => ?_)
 ·refine Zf Bk ?_
  refine Zl AJ ?_
  refine Zf Bk ?_
  refine Zl AJ ?_
  refine Zo (Bs rfl rfl rfl) ?_
  refine Zt ?_
  refine Zg ?_
  refine Za ?_
  refine Zx <| DC.ret ?_
  refine Fin.weak (E' := [(4, _)]) ⟨rfl, trivial⟩ .nil ?_
  refine Zh ?_
  refine ⟨rfl, _, rfl, ?_⟩
  unfold Lex
  simp_all
  try omega
 iterate 5 refine Zk ?_
 iterate 2 refine Zg ?_
 refine Za ?_
 refine Zx <| DC.ret ?_
 refine Fin.weak (E' := [(4, _)]) ⟨rfl, trivial⟩ .nil ?_
 refine Zh ?_
 refine ⟨rfl, _, rfl, ?_⟩
 unfold Lex
 simp_all
 try omega
theorem JP (A : Option Addr) (len cap : Nat) (w : World) : Calls Tryz.prog 220 #[.slice A len cap] w (Ret w [] fun v L => L = [] ∧ v = .int .i64 len) := by
 refine Ao (args := [_]) (L := []) Tryz.func220 rfl Tryz.ntmps220 rfl (Own.start _ _) ?_
 refine Zs ?_
 refine Za ?_
 refine Zx <| Zs ?_
 refine Zm ?_
 refine Zn Tryz.underlying153 ?_
 refine Za ?_
 refine Zx <| DC.ret ?_
 refine Zh ?_
 exact ⟨rfl, rfl⟩
theorem J8 (A : Option Addr) (len cap : Nat) (w : World) : Calls Tryz.prog 221 #[.slice A len cap] w (Ret w [] fun v L => L = [] ∧ v = .int .i64 len) := by
 refine Ao (args := [_]) (L := []) Tryz.func221 rfl Tryz.ntmps221 rfl (Own.start _ _) ?_
 refine Zs ?_
 refine Za ?_
 refine Zx <| Zs ?_
 refine Zm ?_
 refine Zn Tryz.underlying154 ?_
 refine Za ?_
 refine Zx <| DC.ret ?_
 refine Zh ?_
 exact ⟨rfl, rfl⟩
/-- The form of a certificate. -/
theorem JW (b : Bool) (A A' : Option Addr) (n m cap cap' : Nat) (w : World) :
  Calls Tryz.prog 46 #[.agg #[.bool b, .slice A n cap, .slice A' m cap']] w (Ret w [] fun v L => L = [] ∧
   v = if b then .tuple #[.iface 153 (.slice A n cap), .bool (decide (m = 0))] else .tuple #[.iface 154 (.slice A' m cap'), .bool (decide (n = 0))]) := by
 refine Ao (args := [_]) (L := []) Tryz.func46 rfl Tryz.ntmps46 rfl (Own.start _ _) ?_
 refine Zs ?_
 refine Zw (Ba rfl rfl rfl) fun g1 => ?_
 iterate 2 refine Za ?_
 refine Zx <| DC.seq <| Zs ?_
 refine Zf CU ?_
 refine Zl II ?_
 refine Zx ?_
 refine Zd (fun c1 => ?_) fun c1 => ?_
 ·refine DC.seq ?_
  refine AF (cl := [.q, .v, .q, .q, .v, .q, .q, .q, .q]) (A := [0, 1, 3, 0, 8, 24, 56, 7, 255]) (order := [0, 1, 2, 3, 4, 5, 6, 7, 8]) [] mixed (by kernel_rfl) (fun w hw => hw.pick .nil) ?_
  refine Yf CT ?_
  refine Yl Ek ?_
  refine Yo rfl (Fj (v := .iface 153 (.slice A n cap)) rfl rfl (fun w => by kernel_rfl)) ?_
  refine Yf Cr ?_
  refine Yl Bu ?_
  refine Yo rfl (CC rfl rfl TU) ?_
  refine Yo rfl (AN rfl rfl rfl) ?_
  refine Yo rfl (AR rfl rfl) ?_
  refine Yo rfl (AR rfl rfl) ?_
  refine Flow.end rfl ?_
  simp only [zq, zr]
  refine Fin.then <| DC.ret <| Aa ?_
  refine Fin.weak (E' := [(2, _), (3, _)]) ⟨rfl, rfl, trivial⟩ .nil ?_
  refine AL (.inl rfl) rfl rfl rfl ?_
  exact ⟨rfl, by subst c1; simp⟩
 refine DC.skip <| Fin.then <| DC.seq ?_
 refine AF (cl := [.q, .v, .q, .q, .v, .q, .q, .q, .q]) (A := [0, 1, 3, 0, 8, 24, 56, 7, 255]) (order := [0, 1, 2, 3, 4, 5, 6, 7, 8]) [] mixed (by kernel_rfl) (fun w hw => hw.pick .nil) ?_
 refine Yf Cr ?_
 refine Yl Bu ?_
 refine Yo rfl (Fj (v := .iface 154 (.slice A' m cap')) rfl rfl (fun w => by kernel_rfl)) ?_
 refine Yf CT ?_
 refine Yl Ek ?_
 refine Yo rfl (CC rfl rfl TW) ?_
 refine Yo rfl (AN rfl rfl rfl) ?_
 refine Yo rfl (AR rfl rfl) ?_
 refine Yo rfl (AR rfl rfl) ?_
 refine Flow.end rfl ?_
 simp only [zq, zr]
 refine Fin.then <| DC.ret ?_
 refine Fin.weak (E' := [(2, _), (3, _)]) ⟨rfl, rfl, trivial⟩ .nil ?_
 refine AL (.inl rfl) rfl rfl rfl ?_
 exact ⟨rfl, by subst c1; simp⟩
theorem Lh (ls : List (List Int)) (v : Value) (w : World) (hv : LsV w v ls) :
  Calls Tryz.prog 47 #[.iface 153 v] w (Ret w [] fun r L => L = [] ∧ ∃ b, r = .tuple #[str [112], .int .i64 1048576, .bool b] ∧ (b = true ↔ ListsOk ls)) := by
 obtain ⟨A, cap, rfl, hr, hlc, hcm, hle⟩ := hv
 refine Ao (args := [_]) (L := []) Tryz.func47 rfl Tryz.ntmps47 rfl (Own.start _ _) ?_
 refine Zs ?_
 iterate 3 refine Za ?_
 refine Zx <| DC.seq <| Zs ?_
 refine Zm ?_
 refine Zx <| DC.block <| Zs ?_
 refine Zo (C4 (v := .tuple #[.slice A ls.length cap, .bool true]) rfl rfl (fun w => by kernel_rfl)) ?_
 iterate 2 refine Ze ?_
 refine Zx ?_
 refine AI rfl ?_
 refine Zs ?_
 refine Za ?_
 refine Zx <| DC.seq <| Zs ?_
 refine Zm ?_
 refine Zn Tryz.underlying153 ?_
 refine Zo (Bs rfl rfl rfl) ?_
 refine Zx ?_
 refine Zd (fun c4 => ?_) fun c4 => ?_
 ·refine Zs ?_
  iterate 3 refine Za ?_
  refine Zx <| DC.ret <| Aa <| Ae <| Aa ?_
  refine Fin.weak (E' := [(2, _), (3, _), (4, _)]) ⟨rfl, rfl, rfl, trivial⟩ .nil ?_
  refine Bo (.inl rfl) rfl rfl rfl rfl ?_
  exact ⟨rfl, false, rfl, by simp; rintro ⟨h1, _⟩; simp at c4; omega⟩
 refine DC.skip <| Fin.then <| DC.seq <| Zs ?_
 refine Zm ?_
 refine Zn Tryz.underlying153 ?_
 refine Zm ?_
 refine Zx <| DC.block ?_
 refine DC.loop (ι := Nat) (fun i => i ≤ ls.length ∧ ∀ (j : Nat) l, j < i → ls[j]? = some l → ListOk l)
  (fun i => [(20, .slice A ls.length cap), (21, .int .i64 ls.length), (22, .int .i64 i)])
  (fun i => []) (fun i => ls.length - i) 0 ⟨Nat.zero_le _, fun _ _ h => absurd h (TS _)⟩ ⟨rfl, rfl, rfl, trivial⟩ .nil ?_
 rintro i ⟨hi, hok⟩
 refine Zs ?_
 refine Zc ?_
 refine Zx <| DC.seq ?_
 refine Zd (fun c7 => ?_) fun c7 => ?_
 ·have hlt : i < ls.length := by simpa using c7
  obtain ⟨l, hl⟩ : ∃ l, ls[i]? = some l := ⟨_, Tz hlt⟩
  obtain ⟨ad, lv, rfl, hc, Al, capl, rfl, hrl, hl1, hl2, hl3⟩ := hr i l hl
  refine DC.skip <| Fin.then <| DC.seq <| DC.block <| Zs ?_
  refine Zi Tryz.underlying153 BE ?_
  refine Zu (Ai rfl rfl BA (Aw hc)) ?_
  refine Za ?_
  refine Zx <| Zs ?_
  refine Zm ?_
  refine Zn TT ?_
  refine Zm ?_
  refine Zx <| DC.block ?_
  refine DC.loop (ι := Nat) (fun k => k ≤ l.length ∧ ∀ (j : Nat) x a, j < k → l[j]? = some x → l[0]? = some a → Fits x ∧ a ≤ x)
   (fun k => [(7, .slice Al l.length capl), (20, .slice (some ad) ls.length cap), (21, .int .i64 ls.length), (22, .int .i64 i), (26, .slice Al l.length capl), (27, .int .i64 l.length), (28, .int .i64 k)])
   (fun k => []) (fun k => l.length - k) 0 ⟨Nat.zero_le _, fun _ _ _ h => absurd h (TS _)⟩ ⟨rfl, rfl, rfl, rfl, rfl, rfl, rfl, trivial⟩ .nil ?_
  rintro k ⟨hk, hokl⟩
  refine Zs ?_
  refine Zc ?_
  refine Zx <| DC.seq ?_
  refine Zd (fun c10 => ?_) fun c10 => ?_
  ·have hlt2 : k < l.length := by simpa using c10
   obtain ⟨x, hx⟩ : ∃ x, l[k]? = some x := ⟨_, Tz hlt2⟩
   obtain ⟨a, ha⟩ : ∃ a, l[0]? = some a := ⟨_, Tz (by omega)⟩
   obtain ⟨adl, rfl, hcx⟩ := hrl.int hx
   obtain ⟨adl', e', hca⟩ := hrl.int ha
   cases e'
   refine DC.skip <| Fin.then <| DC.seq <| DC.block <| Zs ?_
   refine Zi TT AQ ?_
   refine Zu (Ai rfl rfl AJ (Aw hcx)) ?_
   refine Za ?_
   refine Zx <| Zs ?_
   refine Zm ?_
   refine Seq.rel0 rfl rfl (Ar RR rfl rfl rfl (fun w hw => Fq x w)) ?_
   rintro _ ⟨b1, rfl, hb1⟩
   refine Zo (Bd rfl rfl) ?_
   refine Zm ?_
   refine Seq.split 35 rfl (fun k12_3 => ?_) (fun k12_3 => ?_)
   ·refine Zk ?_
    iterate 4 refine Zk ?_
    refine Zt ?_
    refine Zx ?_
    refine AI rfl ?_
    refine Zs ?_
    iterate 3 refine Za ?_
    refine Zx <| DC.ret <| Ae <| Aa <| Aa <| Ae <| Ae <| Aa <| Aa <| Ae <| Aa <| Ae <| Aa ?_
    refine Fin.weak (E' := [(2, _), (3, _), (4, _)]) ⟨rfl, rfl, rfl, trivial⟩ .nil ?_
    refine Bo (.inl rfl) rfl rfl rfl rfl ?_
    refine ⟨rfl, false, rfl, by simp; rintro ⟨_, h2⟩; have := h2 i l hl k x a hx ha; simp_all⟩
   iterate 2 refine Zm ?_
   refine Zi TT AQ ?_
   refine Zu (Ai rfl rfl AJ (Aw hca)) ?_
   refine Zc ?_
   refine Zg ?_
   refine Zx ?_
   refine Zd (fun c12 => ?_) fun c12 => ?_
   ·refine Zs ?_
    iterate 3 refine Za ?_
    refine Zx <| DC.ret <| Ae <| Aa <| Aa <| Ae <| Ae <| Aa <| Aa <| Ae <| Aa <| Ae <| Aa ?_
    refine Fin.weak (E' := [(2, _), (3, _), (4, _)]) ⟨rfl, rfl, rfl, trivial⟩ .nil ?_
    refine Bo (.inl rfl) rfl rfl rfl rfl ?_
    refine ⟨rfl, false, rfl, by simp; rintro ⟨_, h2⟩; have := h2 i l hl k x a hx ha; simp_all; omega⟩
   refine DC.skip <| Fin.inBlock <| Fin.then <| DC.region ?_
   refine Zp ?_
   refine Zm ?_
   refine Seq.nil ?_
   refine Ag (k + 1) (by omega) ⟨by omega, ?_⟩ ⟨rfl, rfl, rfl, rfl, rfl, rfl, rfl, trivial⟩ .nil
   intro j x' a' hj hx' ha'
   rcases TE.1 hj with hj | rfl
   ·exact hokl j x' a' hj hx' ha'
   rw [hx] at hx'; cases hx'; rw [ha] at ha'; cases ha'
   simp at k12_3 c12
   exact ⟨hb1.1 k12_3, by omega⟩
  refine DC.exit <| Ad <| Ad <| Ah <| Fin.inBlock <| Fin.then <| DC.region ?_
  refine Zp ?_
  refine Zm ?_
  refine Seq.nil ?_
  have hkl : k = l.length := by simp at c10; omega
  subst hkl
  refine Ag (i + 1) (by omega) ⟨by omega, ?_⟩ ⟨rfl, rfl, rfl, trivial⟩ .nil
  intro j l' hj hl'
  rcases TE.1 hj with hj | rfl
  ·exact hok j l' hj hl'
  rw [hl] at hl'; cases hl'
  intro q x' a' hq ha'
  exact hokl q x' a' (TA.1 hq).1 hq ha'
 refine DC.exit <| Ad <| Ad <| Ah <| Fin.then <| Zs ?_
 iterate 3 refine Za ?_
 refine Zx <| DC.ret <| Ae <| Aa ?_
 refine Fin.weak (E' := [(2, _), (3, _), (4, _)]) ⟨rfl, rfl, rfl, trivial⟩ .nil ?_
 refine Bo (.inl rfl) rfl rfl rfl rfl ?_
 have hil : i = ls.length := by simp at c7; omega
 subst hil
 refine ⟨rfl, true, rfl, by simp; exact ⟨by simp at c4; omega, fun j l hl => hok j l (TA.1 hl).1 hl⟩⟩
theorem Li (es : List Pr) (v : Value) (w : World) (hv : PrV w v es) :
  Calls Tryz.prog 47 #[.iface 154 v] w (Ret w [] fun r L => L = [] ∧ ∃ b, r = .tuple #[str [110], .int .i64 4194304, .bool b] ∧ (b = true ↔ EdgesOk es)) := by
 obtain ⟨A, cap, rfl, hr, hlc, hcm, hle⟩ := hv
 refine Ao (args := [_]) (L := []) Tryz.func47 rfl Tryz.ntmps47 rfl (Own.start _ _) ?_
 refine Zs ?_
 iterate 3 refine Za ?_
 refine Zx <| DC.seq <| Zs ?_
 refine Zm ?_
 refine Zx <| DC.block <| Zs ?_
 refine Zo (C4 (v := .tuple #[.slice none 0 0, .bool false]) rfl rfl (fun w => by kernel_rfl)) ?_
 iterate 2 refine Ze ?_
 refine Zx ?_
 refine AT rfl ?_
 refine Zs ?_
 refine Zo (C4 (v := .tuple #[.slice A es.length cap, .bool true]) rfl rfl (fun w => by kernel_rfl)) ?_
 iterate 2 refine Ze ?_
 refine Zx ?_
 refine AI rfl ?_
 refine Zs ?_
 refine Za ?_
 refine Zx <| DC.seq <| Zs ?_
 refine Zm ?_
 refine Zn Tryz.underlying154 ?_
 refine Zo (Bs rfl rfl rfl) ?_
 refine Zx ?_
 refine Zd (fun c19 => ?_) fun c19 => ?_
 ·refine Zs ?_
  iterate 3 refine Za ?_
  refine Zx <| DC.ret <| Aa <| Ae <| Aa ?_
  refine Fin.weak (E' := [(2, _), (3, _), (4, _)]) ⟨rfl, rfl, rfl, trivial⟩ .nil ?_
  refine Bo (.inl rfl) rfl rfl rfl rfl ?_
  exact ⟨rfl, false, rfl, by simp; intro h; have := h.few; simp at c19; omega⟩
 refine DC.skip <| Fin.then <| DC.seq <| Zs ?_
 refine Zm ?_
 refine Zn Tryz.underlying154 ?_
 refine Zm ?_
 refine Zx <| DC.block ?_
 refine DC.loop (ι := Nat) (fun i => i ≤ es.length ∧ (∀ (j : Nat) e, j < i → es[j]? = some e → Fits e.1 ∧ Fits e.2 ∧ e.1 < e.2) ∧ ∀ (j : Nat) a b, j + 1 < i → es[j]? = some a → es[j + 1]? = some b → Lex a b)
  (fun i => [(10, .slice A es.length cap), (50, .slice A es.length cap), (51, .int .i64 es.length), (52, .int .i64 i)])
  (fun i => []) (fun i => es.length - i) 0 ⟨Nat.zero_le _, fun _ _ h => absurd h (TS _), fun _ _ _ h => absurd h (TS _)⟩ ⟨rfl, rfl, rfl, rfl, trivial⟩ .nil ?_
 rintro i ⟨hi, hok, hup⟩
 refine Zs ?_
 refine Zc ?_
 refine Zx <| DC.seq ?_
 refine Zd (fun c22 => ?_) fun c22 => ?_
 ·have hlt : i < es.length := by simpa using c22
  obtain ⟨e, he⟩ : ∃ e, es[i]? = some e := ⟨_, Tz hlt⟩
  obtain ⟨ad, rfl, hU, hV⟩ := hr.pair he
  refine DC.skip <| Fin.then <| DC.seq <| DC.block <| Zs ?_
  refine Zm ?_
  refine Zo (AM rfl rfl rfl Tryz.underlying154 AY (by omega) (by omega) (by first | exact AC _ _ | exact Bj _ _ _ | rfl)) ?_
  refine Zu (Ay (vs := [_, _]) rfl rfl B3 AY rfl (Cv hU hV (by simp))) ?_
  refine Zw (AD rfl CE rfl) fun g12 => ?_
  refine Za ?_
  refine Zy (At (cs' := #[_, _]) rfl rfl rfl AY rfl (TB rfl) rfl) ?_
  refine Zx <| DC.seq ?_
  refine AF (cl := [.q, .v, .r, .q, .q, .q, .v, .r, .q, .q, .q, .q, .v, .q, .v, .q, .q, .q, .q, .q, .q, .q, .q, .q, .q, .v, .v, .r, .q, .q, .q]) (A := [0, 1, 3, 7, 15, 31, 63, 127, 255, 511, 1023, 2047, 4095, 2047, 10239, 32767, 65535, 131071, 262143, 524287, 1048575, 2097151, 2097151, 6291455, 16777215, 33554431, 2097151, 134217727, 268435455, 536870911, 1073741823]) (order := [0, 1, 2, 3, 4, 5, 6, 7, 8, 9, 10, 11, 12, 13, 14, 15, 16, 17, 18, 19, 20, 21, 22, 23, 24, 25, 26, 27, 28, 29, 30]) [] mixed (by kernel_rfl) (fun w hw => hw.pick .nil) ?_
  refine Yf Bb ?_
  refine Yl AJ ?_
  refine Flow.rel0 rfl rfl rfl rfl (Ar RR rfl rfl rfl (fun w hw => Fq e.1 w)) ?_
  rintro _ ⟨b1, rfl, hb1⟩
  refine Yo rfl (Bd rfl rfl) ?_
  refine Ym ?_
  refine Flow.split 61 rfl (fun k24_4 => ?_) (fun k24_4 => ?_)
  ·refine Yk ?_
   iterate 3 refine Yk ?_
   refine Yo rfl (A7 rfl rfl rfl) ?_
   refine Ym ?_
   iterate 5 refine Yk ?_
   refine Yo rfl (A7 rfl rfl rfl) ?_
   refine Ym ?_
   iterate 12 refine Yk ?_
   refine Yo rfl (A7 rfl rfl rfl) ?_
   refine Flow.end rfl ?_
   simp only [zq, zr]
   refine Fin.then ?_
   refine AI rfl ?_
   refine Zs ?_
   iterate 3 refine Za ?_
   refine Zx <| DC.ret <| Ae <| Aa <| Aa <| Ae <| Aa <| Ae <| Aa ?_
   refine Fin.weak (E' := [(2, _), (3, _), (4, _)]) ⟨rfl, rfl, rfl, trivial⟩ .nil ?_
   refine Bo (.inl rfl) rfl rfl rfl rfl ?_
   exact ⟨rfl, false, rfl, by simp; intro h; have := h.ok i e he; simp_all⟩
  refine Yf Bk ?_
  refine Yl AJ ?_
  refine Flow.rel0 rfl rfl rfl rfl (Ar RR rfl rfl rfl (fun w hw => Fq e.2 w)) ?_
  rintro _ ⟨b2, rfl, hb2⟩
  refine Yo rfl (Bd rfl rfl) ?_
  refine Yo rfl (AZ rfl rfl rfl) ?_
  refine Ym ?_
  refine Flow.split 67 rfl (fun k24_10 => ?_) (fun k24_10 => ?_)
  ·refine Yk ?_
   iterate 4 refine Yk ?_
   refine Yo rfl (A7 rfl rfl rfl) ?_
   refine Ym ?_
   iterate 12 refine Yk ?_
   refine Yo rfl (A7 rfl rfl rfl) ?_
   refine Flow.end rfl ?_
   simp only [zq, zr]
   refine Fin.then ?_
   refine AI rfl ?_
   refine Zs ?_
   iterate 3 refine Za ?_
   refine Zx <| DC.ret <| Ae <| Aa <| Aa <| Ae <| Aa <| Ae <| Aa ?_
   refine Fin.weak (E' := [(2, _), (3, _), (4, _)]) ⟨rfl, rfl, rfl, trivial⟩ .nil ?_
   refine Bo (.inl rfl) rfl rfl rfl rfl ?_
   exact ⟨rfl, false, rfl, by simp; intro h; have := h.ok i e he; simp_all⟩
  refine Yf Bb ?_
  refine Yl AJ ?_
  refine Yf Bk ?_
  refine Yl AJ ?_
  refine Yo rfl (Cc rfl rfl rfl) ?_
  refine Yo rfl (AZ rfl rfl rfl) ?_
  refine Ym ?_
  refine Flow.split 74 rfl (fun k24_17 => ?_) (fun k24_17 => ?_)
  ·refine Yk ?_
   iterate 11 refine Yk ?_
   refine Yo rfl (A7 rfl rfl rfl) ?_
   refine Flow.end rfl ?_
   simp only [zq, zr]
   refine Fin.then ?_
   refine AI rfl ?_
   refine Zs ?_
   iterate 3 refine Za ?_
   refine Zx <| DC.ret <| Ae <| Aa <| Aa <| Ae <| Aa <| Ae <| Aa ?_
   refine Fin.weak (E' := [(2, _), (3, _), (4, _)]) ⟨rfl, rfl, rfl, trivial⟩ .nil ?_
   refine Bo (.inl rfl) rfl rfl rfl rfl ?_
   exact ⟨rfl, false, rfl, by simp; intro h; have := h.ok i e he; simp_all; omega⟩
  refine Ym ?_
  refine Yo rfl (Bs rfl rfl rfl) ?_
  refine Ym ?_
  refine Flow.split 77 rfl (fun k24_20 => ?_) (fun k24_20 => ?_)
  ·have hpos : 0 < i := by simpa using k24_20
   obtain ⟨d, hd⟩ : ∃ d, es[i - 1]? = some d := ⟨_, Tz (by omega)⟩
   obtain ⟨ad', h', hU', hV'⟩ := hr.pair hd
   cases h'
   have hii : ((i : Int) - 1).toNat = i - 1 := by omega
   iterate 2 refine Ym ?_
   refine Yo rfl (Bv rfl rfl rfl (by omega)) ?_
   refine Yo rfl (AM (ad' := ad.add ((i - 1) * 2)) rfl rfl rfl Tryz.underlying154 AY (by omega) (by omega) (by rw [hii])) ?_
   refine Am rfl rfl rfl rfl (Ay (vs := [_, _]) rfl rfl B3 AY rfl (Cv hU' hV' (by simp))) ?_
   refine Am rfl rfl rfl rfl (Ay (vs := [_, _]) rfl rfl B3 AY rfl (Ak rfl)) ?_
   refine Flow.rel0 rfl rfl rfl rfl (Ar Sy rfl rfl rfl (fun w hw => GJ d.1 d.2 e.1 e.2 w)) ?_
   rintro _ ⟨b3, rfl, hb3⟩
   refine Yo rfl (Bd rfl rfl) ?_
   refine Yo rfl (A7 rfl rfl rfl) ?_
   refine Yo rfl (AZ rfl rfl rfl) ?_
   refine Flow.end rfl ?_
   simp only [zq, zr]
   refine Fin.then ?_
   refine Zd (fun c24 => ?_) fun c24 => ?_
   ·refine Zs ?_
    iterate 3 refine Za ?_
    refine Zx <| DC.ret <| Ae <| Aa <| Aa <| Ae <| Aa <| Ae <| Aa ?_
    refine Fin.weak (E' := [(2, _), (3, _), (4, _)]) ⟨rfl, rfl, rfl, trivial⟩ .nil ?_
    refine Bo (.inl rfl) rfl rfl rfl rfl ?_
    refine ⟨rfl, false, rfl, by simp; intro h; have := h.up (i - 1) d e hd (by rw [show i - 1 + 1 = i by omega]; exact he); simp_all⟩
   refine DC.skip <| Fin.inBlock <| Fin.then <| DC.region ?_
   refine Zp ?_
   refine Zm ?_
   refine Seq.nil ?_
   refine Ag (i + 1) (by omega) ⟨by omega, ?_, ?_⟩ ⟨rfl, rfl, rfl, rfl, trivial⟩ .nil
   ·intro j x hj hx
    rcases TE.1 hj with hj | rfl
    ·exact hok j x hj hx
    rw [he] at hx; cases hx
    simp at k24_4 k24_10 k24_17
    exact ⟨hb1.1 k24_4, hb2.1 k24_10, by omega⟩
   intro j a b hj ha hb
   rcases TE.1 hj with hj | hj
   ·exact hup j a b hj ha hb
   obtain rfl : j = i - 1 := by omega
   rw [hd] at ha; cases ha
   rw [show i - 1 + 1 = i by omega, he] at hb; cases hb
   exact hb3.1 (by simpa using c24)
  iterate 8 refine Yk ?_
  refine Yo rfl (AZ rfl rfl rfl) ?_
  refine Yo rfl (AZ rfl rfl rfl) ?_
  refine Flow.end rfl ?_
  simp only [zq, zr]
  refine Fin.then ?_
  refine AT rfl ?_
  refine DC.skip <| Fin.inBlock <| Fin.then <| DC.region ?_
  refine Zp ?_
  refine Zm ?_
  refine Seq.nil ?_
  have h0 : i = 0 := by simp at k24_20; omega
  subst h0
  refine Ag 1 (by omega) ⟨by omega, ?_, ?_⟩ ⟨rfl, rfl, rfl, rfl, trivial⟩ .nil
  ·intro j x hj hx
   obtain rfl : j = 0 := by omega
   rw [he] at hx; cases hx
   simp at k24_4 k24_10 k24_17
   exact ⟨hb1.1 k24_4, hb2.1 k24_10, by omega⟩
  intro j a b hj; omega
 refine DC.exit <| Ad <| Ad <| Ah <| Fin.then <| Zs ?_
 iterate 3 refine Za ?_
 refine Zx <| DC.ret <| Ae <| Aa ?_
 refine Fin.weak (E' := [(2, _), (3, _), (4, _)]) ⟨rfl, rfl, rfl, trivial⟩ .nil ?_
 refine Bo (.inl rfl) rfl rfl rfl rfl ?_
 have hil : i = es.length := by simp at c22; omega
 subst hil
 refine ⟨rfl, true, rfl, by simp; exact ⟨by simp at c19; omega, fun j e h => hok j e (TA.1 h).1 h, fun j a b ha hb => hup j a b (TA.1 hb).1 ha hb⟩⟩
open Classical
/-- A line of two numbers of a certificate's text. -/
noncomputable def edgeP (bs : List UInt8) (i : Nat) (es : List Pr) : Option (Pr × Nat) :=
 match numP bs i with
 | none => none
 | some (u, j) => if bs[j]? = some 32 then
   (match numP bs (j + 1) with
   | none => none
   | some (v, k) => if v ≤ u then none else if ∃ d, es[es.length - 1]? = some d ∧ ¬ Lex d (u, v) then none else if bs[k]? = some 10 then some ((u, v), k + 1) else none)
  else none
theorem NT {w : World} {ad : Addr} {l c k : Nat} {es : List Pr} {d : Pr} (h : PrV w (.slice (some ad) l c) es) (hi : es[k]? = some d) : ∀ (j : Nat) u, [Value.int .i64 d.1, .int .i64 d.2][j]? = some u → w.cell? ((ad.add (k * 2)).add j) = some u := by
 obtain ⟨A, cap, e, hr, _⟩ := h
 cases e
 obtain ⟨ad', e', h1, h2⟩ := hr.pair hi
 cases e'
 intro j u hj
 match j with
 | 0 => simp at hj; subst hj; simpa [Addr.add] using h1
 | 1 => simp at hj; subst hj; rw [B6 _ _ _ (by decide)]; exact h2
theorem LK {g i : Nat} {vb vl : Value} {bad : Int} {bs : List UInt8} {es : List Pr} {w : World} (hO : Own w (idsOf [rdC g vb i bad]) w [rdC g vb i bad]) (hB : ByV w vb bs) (ho : ByO vb bs (idsOf [rdC g vb i bad])) (hb : bs.length ≤ 33554432) (hil : i ≤ bs.length)
  (hL : ∀ (w' : World) L', Own w (idsOf [rdC g vb i bad]) w' L' → PrV w' vl es) :
  Calls Tryz.prog 81 #[.pointer (some ⟨g, 0, none⟩), vl] w (Ret w (idsOf [rdC g vb i bad]) fun r M => ∃ a b ok j bad', r = .tuple #[.agg #[.int .i64 a, .int .i64 b], .bool ok] ∧ M = [rdC g vb j bad'] ∧ j ≤ bs.length ∧ (ok = true → edgeP bs i es = some ((a, b), j)) ∧ (ok = false → edgeP bs i es = none)) := by
 obtain ⟨A, cap, hvl, hrd0, hlc, hcm, hle⟩ := hL w _ hO
 subst hvl
 refine Ao (args := [_, _]) Tryz.func81 rfl Tryz.ntmps81 rfl hO ?_
 refine Zs ?_
 refine Zw (AD rfl CE rfl) fun g4 => ?_
 refine Za ?_
 refine Zx <| DC.seq ?_
 refine DC.own (M := [rdC g vb i bad, blk g4 43 #[.int .i64 0, .int .i64 0]]) (fun w hw => hw.perm (List.Perm.swap _ _ _)) ?_
 refine DC.region ?_
 refine Zm ?_
 refine Seq.gen rfl rfl (Bh QX rfl rfl rfl (Lc := [rdC g vb i bad]) (F := [blk g4 43 #[.int .i64 0, .int .i64 0]]) (.refl _) (fun k hk => hk) (fun w hw => Dd (hw.sub (L' := [rdC g vb i bad]) (.cons_cons _ (TH _))).self (hB.keep ho hw) (ByO.step (L := [rdC g vb i bad]) hB ho (hw.sub (.cons_cons _ (TH _)))) hb hil)) ?_
 rintro _ _ ⟨_, ⟨u, fine, j, bad1, rfl, rfl, ⟨hij, hjl⟩, hy1, hn1⟩, rfl⟩
 simp only [zs]
 have hsh : edgeP bs i es = (match numP bs i with
  | none => none
  | some (u, j) => if bs[j]? = some 32 then
   (match numP bs (j + 1) with
   | none => none
   | some (v, k) => if v ≤ u then none else if ∃ d, es[es.length - 1]? = some d ∧ ¬ Lex d (u, v) then none else if bs[k]? = some 10 then some ((u, v), k + 1) else none)
  else none) := rfl
 refine Zm ?_
 iterate 3 refine Ze ?_
 iterate 3 refine Za ?_
 refine Zx <| DC.seq <| Zs ?_
 refine Zm ?_
 refine Zo (Bd rfl rfl) ?_
 refine Zm ?_
 refine Seq.split 20 rfl (fun k2_2 => ?_) (fun k2_2 => ?_)
 ·have hnum := hn1 (by simpa using k2_2)
  rw [hnum] at hsh
  dsimp only at hsh
  iterate 3 refine Zk ?_
  refine Zt ?_
  refine Zx ?_
  refine AI rfl ?_
  refine Zs ?_
  refine Zo (AA (cs := #[_, _]) rfl rfl F3 rfl rfl) ?_
  refine Zy (At (cs' := #[_, _]) rfl rfl rfl AY rfl (TB rfl) rfl) ?_
  refine Za ?_
  refine Zx <| DC.ret <| Aa ?_
  refine Bf (cs := #[_, _]) (.inl rfl) rfl rfl rfl B3 AY ?_
  exact ⟨[rdC g vb j bad1], fun w hw => hw.pick (.cons 0 rfl .nil), 0, 0, false, j, bad1, rfl, rfl, hjl, by simp, fun _ => hsh⟩
 obtain ⟨hnum, hij', rfl, hu0, hu1⟩ := hy1 (by simpa using k2_2)
 rw [hnum] at hsh
 dsimp only at hsh
 refine Zm ?_
 refine Seq.gen rfl rfl (Bh PO rfl rfl rfl (Lc := [rdC g vb j bad1]) (F := [blk g4 43 #[.int .i64 0, .int .i64 0]]) (.refl _) (fun k hk => hk) (fun w hw => Dl (c := 32) (hw.sub (L' := [rdC g vb j bad1]) (.cons_cons _ (TH _))).self (hB.keep ho hw) (ByO.step (L := [rdC g vb j bad1]) hB ho (hw.sub (.cons_cons _ (TH _)))) hb)) ?_
 rintro _ _ ⟨_, ⟨b22, j2, bad2, rfl, rfl, hw1, hw2⟩, rfl⟩
 simp only [zs]
 have hj2l : j2 ≤ bs.length := by
  cases b22 with
  | true => exact (hw1 rfl).2.2.1
  | false => have := (hw2 rfl).2; omega
 refine Zo (Bd rfl rfl) ?_
 refine Zg ?_
 refine Zx ?_
 refine Zd (fun c2 => ?_) fun c2 => ?_
 ·rw [if_neg (hw2 (by simpa using c2)).1] at hsh
  refine Zs ?_
  refine Zo (AA (cs := #[_, _]) rfl rfl F3 rfl rfl) ?_
  refine Zy (At (cs' := #[_, _]) rfl rfl rfl AY rfl (TB rfl) rfl) ?_
  refine Za ?_
  refine Zx <| DC.ret <| Aa ?_
  refine Bf (cs := #[_, _]) (.inl rfl) rfl rfl rfl B3 AY ?_
  exact ⟨[rdC g vb j2 bad2], fun w hw => hw.pick (.cons 0 rfl .nil), 0, 0, false, j2, bad2, rfl, rfl, hj2l, by simp, fun _ => hsh⟩
 obtain ⟨hb32, hj2, _, rfl⟩ := hw1 (by simpa using c2)
 rw [if_pos hb32, ← hj2] at hsh
 refine DC.skip <| Fin.then <| Zs ?_
 refine Zm ?_
 refine Seq.gen rfl rfl (Bh QX rfl rfl rfl (Lc := [rdC g vb j2 bad2]) (F := [blk g4 43 #[.int .i64 0, .int .i64 0]]) (.refl _) (fun k hk => hk) (fun w hw => Dd (hw.sub (L' := [rdC g vb j2 bad2]) (.cons_cons _ (TH _))).self (hB.keep ho hw) (ByO.step (L := [rdC g vb j2 bad2]) hB ho (hw.sub (.cons_cons _ (TH _)))) hb hj2l)) ?_
 rintro _ _ ⟨_, ⟨v, fine2, k, bad3, rfl, rfl, ⟨hjk, hkl⟩, hy2, hn2⟩, rfl⟩
 simp only [zs]
 refine Zm ?_
 iterate 3 refine Ze ?_
 iterate 3 refine Za ?_
 refine Zx <| DC.seq <| Zs ?_
 refine Zm ?_
 refine Zo (Bd rfl rfl) ?_
 refine Zx ?_
 refine Zd (fun c5 => ?_) fun c5 => ?_
 ·rw [hn2 (by simpa using c5)] at hsh
  dsimp only at hsh
  refine Zs ?_
  refine Zo (AA (cs := #[_, _]) rfl rfl F3 rfl rfl) ?_
  refine Zy (At (cs' := #[_, _]) rfl rfl rfl AY rfl (TB rfl) rfl) ?_
  refine Za ?_
  refine Zx <| DC.ret <| Aa ?_
  refine Bf (cs := #[_, _]) (.inl rfl) rfl rfl rfl B3 AY ?_
  exact ⟨[rdC g vb k bad3], fun w hw => hw.pick (.cons 0 rfl .nil), 0, 0, false, k, bad3, rfl, rfl, hkl, by simp, fun _ => hsh⟩
 obtain ⟨hnum2, hjk', rfl, hv0, hv1⟩ := hy2 (by simpa using c5)
 rw [hnum2] at hsh
 dsimp only at hsh
 refine DC.skip <| Fin.then <| Zs ?_
 iterate 2 refine Zm ?_
 refine Zo (AA (cs := #[_, _]) rfl rfl F3 rfl rfl) ?_
 refine Zw (AD rfl CE rfl) fun g11 => ?_
 refine Zy (At (cs' := #[_, _]) rfl rfl rfl AY rfl (TB rfl) rfl) ?_
 refine Zx <| DC.seq <| DC.seq ?_
 refine DC.own (M := [rdC g vb k bad3, blk g11 43 #[.int .i64 u, .int .i64 v], blk g4 43 #[.int .i64 0, .int .i64 0]]) (fun w hw => hw.perm (List.Perm.swap _ _ _)) ?_
 refine DC.region ?_
 iterate 2 refine Zm ?_
 refine Zo (Cc rfl rfl rfl) ?_
 refine Zx ?_
 refine Zd (fun c8 => ?_) fun c8 => ?_
 ·rw [if_pos (show v ≤ u by simp at c8; omega)] at hsh
  refine DC.seq ?_
  refine AF (cl := [.q, .q, .q, .g, .g, .q]) (A := [0, 0, 0, 6, 15, 31]) (order := [0, 1, 2, 3, 4, 5]) ([blk g11 43 #[.int .i64 u, .int .i64 v]]) mixed (by kernel_rfl) (fun w hw => hw.pick (.cons 1 rfl .nil)) ?_
  refine Flow.old rfl rfl rfl (Ay (vs := [_, _]) rfl rfl B3 AY rfl (Ak rfl)) ?_
  iterate 2 refine Ym ?_
  refine Flow.gen0 rfl rfl rfl rfl (Bh IF rfl rfl rfl (Lc := [rdC g vb k bad3]) (F := [blk g11 43 #[.int .i64 u, .int .i64 v], blk g4 43 #[.int .i64 0, .int .i64 0]]) (.refl _) (fun k hk => hk) (fun w hw => BT (hw.sub (L' := [rdC g vb k bad3]) (.cons_cons _ (TH _))).self)) (fun v L' hC w hw => hw.pick (by obtain ⟨_, ⟨_, _, rfl⟩, rfl⟩ := hC; exact .cons 1 rfl .nil)) ?_
  rintro _ _ ⟨_, ⟨rfl, bad4, rfl⟩, rfl⟩
  simp only [zs]
  refine AS rfl rfl rfl rfl (At (cs' := #[_, _]) rfl rfl rfl AY rfl (TB rfl) rfl) (fun w hw => hw.pick (.cons 1 rfl .nil)) ?_
  refine Yo rfl (AR rfl rfl) ?_
  refine Flow.end rfl ?_
  simp only [zq, zr]
  refine Fin.then <| DC.ret <| Aa ?_
  refine Bf (cs := #[_, _]) (.inl rfl) rfl rfl rfl B3 AY ?_
  exact ⟨[rdC g vb k bad4], fun w hw => hw.pick (.cons 0 rfl .nil), u, v, false, k, bad4, rfl, rfl, hkl, by simp, fun _ => hsh⟩
 rw [if_neg (show ¬ v ≤ u by simp at c8; omega)] at hsh
 refine DC.skip <| Fin.then ?_
 refine DC.cut (ι := Unit) (fun _ => ¬ ∃ d, es[es.length - 1]? = some d ∧ ¬ Lex d (u, v)) (fun _ => [(0, .pointer (some ⟨g, 0, none⟩)), (4, .pointer (some ⟨g4, 0, none⟩)), (11, .pointer (some ⟨g11, 0, none⟩))])
  (fun _ => [rdC g vb k bad3, blk g11 43 #[.int .i64 u, .int .i64 v], blk g4 43 #[.int .i64 0, .int .i64 0]]) ?first11 ?rest11
 case first11 =>
  refine DC.seq ?_
  refine AF (cl := [.q, .q, .q, .q, .q, .q, .q, .q, .q, .v, .v, .r, .q, .q]) (A := [0, 1, 3, 7, 15, 15, 47, 111, 255, 511, 15, 2047, 4095, 8191]) (order := [0, 1, 2, 3, 4, 5, 6, 7, 8, 9, 10, 11, 12, 13]) [] mixed (by kernel_rfl) (fun w hw => hw.pick .nil) ?_
  refine Ym ?_
  refine Yo rfl (CC rfl rfl TU) ?_
  refine Yo rfl (Bs rfl rfl rfl) ?_
  refine Ym ?_
  refine Flow.split 48 rfl (fun k10_3 => ?_) (fun k10_3 => ?_)
  ·have hlen : 0 < es.length := by have := of_decide_eq_true k10_3; omega
   obtain ⟨d, hd⟩ : ∃ d, es[es.length - 1]? = some d := ⟨_, Tz (by omega)⟩
   obtain ⟨ad, rfl, _⟩ := hrd0.pair hd
   iterate 2 refine Ym ?_
   refine Yo rfl (CC rfl rfl TU) ?_
   refine Yo rfl (Bv rfl rfl rfl (by omega)) ?_
   refine Yo rfl (AM (ad' := ad.add ((es.length - 1) * 2)) rfl rfl rfl TU AY (by omega) (by omega) (by congr 1; omega)) ?_
   refine Am rfl rfl rfl rfl (Ay (vs := [_, _]) rfl rfl B3 AY rfl (fun w' hw' => NT (hL w' _ hw') hd)) ?_
   refine Am rfl rfl rfl rfl (Ay (vs := [_, _]) rfl rfl B3 AY rfl (Ak rfl)) ?_
   refine Flow.rel0 rfl rfl rfl rfl (Ar Sy rfl rfl rfl (fun w hw => GJ _ _ _ _ w)) ?_
   rintro _ ⟨b56, rfl, hb56⟩
   refine Yo rfl (Bd rfl rfl) ?_
   refine Yo rfl (A7 rfl rfl rfl) ?_
   refine Flow.end rfl ?_
   simp only [zq, zr]
   refine Fin.then ?_
   refine Zd (fun c10 => ?_) fun c10 => ?_
   ·have hbad : ∃ d, es[es.length - 1]? = some d ∧ ¬ Lex d (u, v) := ⟨d, hd, fun h => by rw [hb56.2 h] at c10; simp at c10⟩
    rw [if_pos hbad] at hsh
    refine DC.seq ?_
    refine AF (cl := [.q, .q, .q, .g, .g, .q]) (A := [0, 0, 0, 6, 15, 31]) (order := [0, 1, 2, 3, 4, 5]) ([blk g11 43 #[.int .i64 u, .int .i64 v]]) mixed (by kernel_rfl) (fun w hw => hw.pick (.cons 1 rfl .nil)) ?_
    refine Flow.old rfl rfl rfl (Ay (vs := [_, _]) rfl rfl B3 AY rfl (Ak rfl)) ?_
    iterate 2 refine Ym ?_
    refine Flow.gen0 rfl rfl rfl rfl (Bh IF rfl rfl rfl (Lc := [rdC g vb k bad3]) (F := [blk g11 43 #[.int .i64 u, .int .i64 v], blk g4 43 #[.int .i64 0, .int .i64 0]]) (.refl _) (fun k hk => hk) (fun w hw => BT (hw.sub (L' := [rdC g vb k bad3]) (.cons_cons _ (TH _))).self)) (fun v L' hC w hw => hw.pick (by obtain ⟨_, ⟨_, _, rfl⟩, rfl⟩ := hC; exact .cons 1 rfl .nil)) ?_
    rintro _ _ ⟨_, ⟨rfl, bad4, rfl⟩, rfl⟩
    simp only [zs]
    refine AS rfl rfl rfl rfl (At (cs' := #[_, _]) rfl rfl rfl AY rfl (TB rfl) rfl) (fun w hw => hw.pick (.cons 1 rfl .nil)) ?_
    refine Yo rfl (AR rfl rfl) ?_
    refine Flow.end rfl ?_
    simp only [zq, zr]
    refine Fin.then <| DC.ret <| Aa ?_
    refine Bf (cs := #[_, _]) (.inl rfl) rfl rfl rfl B3 AY ?_
    exact ⟨[rdC g vb k bad4], fun w hw => hw.pick (.cons 0 rfl .nil), u, v, false, k, bad4, rfl, rfl, hkl, by simp, fun _ => hsh⟩
   refine DC.skip ?_
   refine AG () ?_ ⟨rfl, rfl, rfl, trivial⟩ (Pick.all _)
   rintro ⟨d', hd', hn⟩
   first
   | (rw [hd] at hd'; cases hd'
      exact hn (hb56.1 (by simpa using c10)))
   | (have := (TA.1 hd').1; omega)
  have hlen : es.length = 0 := by have := of_decide_eq_false k10_3; omega
  iterate 9 refine Yk ?_
  refine Yo rfl (AZ rfl rfl rfl) ?_
  refine Flow.end rfl ?_
  simp only [zq, zr]
  refine Fin.then ?_
  refine AT rfl ?_
  refine DC.skip ?_
  refine AG () ?_ ⟨rfl, rfl, rfl, trivial⟩ (Pick.all _)
  rintro ⟨d', hd', hn⟩
  first
  | (rw [hd] at hd'; cases hd'
     exact hn (hb56.1 (by simpa using c10)))
  | (have := (TA.1 hd').1; omega)
 rintro ⟨⟩ hgood
 rw [if_neg hgood] at hsh
 refine DC.seq ?_
 refine AF (cl := [.q, .q, .g, .g, .q]) (A := [0, 0, 2, 7, 15]) (order := [0, 1, 2, 3, 4]) ([blk g11 43 #[.int .i64 u, .int .i64 v]]) mixed (by kernel_rfl) (fun w hw => hw.pick (.cons 1 rfl .nil)) ?_
 refine Flow.old rfl rfl rfl (Ay (vs := [_, _]) rfl rfl B3 AY rfl (Ak rfl)) ?_
 refine Ym ?_
 refine Flow.gen0 rfl rfl rfl rfl (Bh PO rfl rfl rfl (Lc := [rdC g vb k bad3]) (F := [blk g11 43 #[.int .i64 u, .int .i64 v], blk g4 43 #[.int .i64 0, .int .i64 0]]) (.refl _) (fun k hk => hk) (fun w hw => Dl (c := 10) (hw.sub (L' := [rdC g vb k bad3]) (.cons_cons _ (TH _))).self (hB.keep ho hw) (ByO.step (L := [rdC g vb k bad3]) hB ho (hw.sub (.cons_cons _ (TH _)))) hb)) (fun v L' hC w hw => hw.pick (by obtain ⟨_, ⟨_, _, _, _, rfl, _⟩, rfl⟩ := hC; exact .cons 1 rfl .nil)) ?_
 rintro _ _ ⟨_, ⟨b65, k2, bad4, rfl, rfl, hw3, hw4⟩, rfl⟩
 simp only [zs]
 refine AS rfl rfl rfl rfl (At (cs' := #[_, _]) rfl rfl rfl AY rfl (TB rfl) rfl) (fun w hw => hw.pick (.cons 1 rfl .nil)) ?_
 refine Yo rfl (AR rfl rfl) ?_
 refine Flow.end rfl ?_
 simp only [zq, zr]
 refine Fin.then <| DC.ret ?_
 refine Bf (cs := #[_, _]) (.inl rfl) rfl rfl rfl B3 AY ?_
 refine ⟨[rdC g vb k2 bad4], fun w hw => hw.pick (.cons 0 rfl .nil), u, v, b65, k2, bad4, rfl, rfl, ?_, fun h => ?_, fun h => ?_⟩
 ·cases b65 with
  | true => exact (hw3 rfl).2.2.1
  | false => have := (hw4 rfl).2; omega
 ·rw [hsh, if_pos (hw3 h).1, (hw3 h).2.1]
 rw [hsh, if_neg (hw4 h).1]
end Go.Fl

namespace Go.Fl
open Go Go.Proofs
theorem C8 (a : Int) (w : World) : Calls Tryz.prog 99 #[.int .i64 a] w (Ret w [] fun v L => L = [] ∧ ∃ b, v = .bool b ∧ (b = true ↔ Fits a)) := by
 refine Ao (args := [_]) (L := []) Tryz.func99 rfl Tryz.ntmps99 rfl (Own.start _ _) ?_
 refine Zs ?_
 refine Za ?_
 refine Zx <| Zs ?_
 refine Zm ?_
 refine Zo (Cc rfl rfl rfl) ?_
 refine Zm ?_
 refine Seq.split 5 rfl (fun k1_2 => ?_) (fun k1_2 => ?_)
 ·refine Zm ?_
  refine Zo (HF rfl rfl rfl) ?_
  refine Zt ?_
  refine Za ?_
  refine Zx <| DC.ret ?_
  refine Zh ?_
  refine ⟨rfl, _, rfl, ?_⟩
  unfold Fits
  first
  | (simp at k1_2 ⊢; omega)
 iterate 2 refine Zk ?_
 refine Zg ?_
 refine Za ?_
 refine Zx <| DC.ret ?_
 refine Zh ?_
 refine ⟨rfl, _, rfl, ?_⟩
 unfold Fits
 first
 | (simp at k1_2 ⊢; omega)
theorem Hq {ls : List (List Int)} {v : Value} {w : World} (hv : LsV w v ls) : Calls Tryz.prog 60 #[v] w (Ret w [] fun v L => L = [] ∧ ∃ b, v = .bool b ∧ (b = true ↔ ListsOk ls)) := by
 obtain ⟨A, cap, rfl, hr, hlc, hcm, hle⟩ := hv
 refine Ao (args := [_]) (L := []) Tryz.func60 rfl Tryz.ntmps60 rfl (Own.start _ _) ?_
 refine Zs ?_
 refine Za ?_
 refine Zx <| DC.seq <| Zs ?_
 refine Za ?_
 refine Zx <| DC.block ?_
 refine DC.loop (ι := Nat) (fun i => i ≤ ls.length ∧ ∀ (j : Nat) l, j < i → ls[j]? = some l → ListOk l)
  (fun i => [(0, .slice A ls.length cap), (3, .int .i64 i)]) (fun i => []) (fun i => ls.length - i) 0 ⟨Nat.zero_le _, fun _ _ h => absurd h (TS _)⟩ ⟨rfl, rfl, trivial⟩ .nil ?_
 rintro i ⟨hi, hok⟩
 refine DC.seq <| Zs ?_
 iterate 2 refine Zm ?_
 refine Zn TW ?_
 refine Zc ?_
 refine Zx ?_
 refine Zd (fun c2 => ?_) fun c2 => ?_
 ·have hlt : i < ls.length := by simpa using c2
  obtain ⟨l, hl⟩ : ∃ l, ls[i]? = some l := ⟨_, Tz hlt⟩
  obtain ⟨ad, lv, rfl, hc, Al, capl, rfl, hrl, hl1, hl2, hl3⟩ := hr i l hl
  refine DC.skip <| Fin.then <| DC.seq <| DC.block <| Zs ?_
  refine Za ?_
  refine Zx <| DC.block ?_
  refine DC.loop (ι := Nat) (fun k => k ≤ l.length ∧ ∀ (j : Nat) x a, j < k → l[j]? = some x → l[0]? = some a → Fits x ∧ a ≤ x)
   (fun k => [(0, .slice (some ad) ls.length cap), (3, .int .i64 i), (4, .int .i64 k)])
   (fun k => []) (fun k => l.length - k) 0 ⟨Nat.zero_le _, fun _ _ _ h => absurd h (TS _)⟩ ⟨rfl, rfl, rfl, trivial⟩ .nil ?_
  rintro k ⟨hk, hokl⟩
  refine DC.seq <| Zs ?_
  iterate 3 refine Zm ?_
  refine Zo (Aj (ad' := ad.add i) rfl rfl rfl TW BE (by omega) (by omega) rfl) ?_
  refine Zu (Ai rfl rfl BA (Aw hc)) ?_
  refine Zn TT ?_
  refine Zc ?_
  refine Zx ?_
  refine Zd (fun c5 => ?_) fun c5 => ?_
  ·have hlt2 : k < l.length := by simpa using c5
   obtain ⟨x, hx⟩ : ∃ x, l[k]? = some x := ⟨_, Tz hlt2⟩
   obtain ⟨a, ha⟩ : ∃ a, l[0]? = some a := ⟨_, Tz (by omega)⟩
   obtain ⟨adl, rfl, hcx⟩ := hrl.int hx
   obtain ⟨adl', e', hca⟩ := hrl.int ha
   cases e'
   refine DC.skip <| Fin.then <| DC.seq <| DC.block <| DC.seq ?_
   refine AF (cl := [.q, .q, .q, .v, .q, .q, .v, .r, .q, .q, .q, .q, .q, .v, .q, .q, .v, .q, .q, .q, .v, .q, .v, .q, .q]) (A := [0, 0, 3, 7, 0, 31, 63, 127, 255, 511, 1023, 1023, 4095, 8191, 1023, 32767, 65535, 1023, 1023, 394239, 918527, 1967103, 4064255, 8388607, 16777215]) (order := [0, 1, 2, 3, 4, 5, 6, 7, 8, 9, 10, 11, 12, 13, 14, 15, 16, 17, 18, 19, 20, 21, 22, 23, 24]) [] mixed (by kernel_rfl) (fun w hw => hw.pick .nil) ?_
   iterate 2 refine Ym ?_
   refine Yo rfl (Aj (ad' := ad.add i) rfl rfl rfl TW BE (by omega) (by omega) rfl) ?_
   refine Am rfl rfl rfl rfl (Ai rfl rfl BA (Aw hc)) ?_
   refine Ym ?_
   refine Yo rfl (Aj (ad' := adl.add k) rfl rfl rfl TT AQ (by omega) (by omega) rfl) ?_
   refine Am rfl rfl rfl rfl (Ai rfl rfl AJ (Aw hcx)) ?_
   refine Flow.rel0 rfl rfl rfl rfl (Ar RQ rfl rfl rfl (fun w' hw => C8 x w')) ?_
   rintro _ ⟨b1, rfl, hb1⟩
   refine Yo rfl (Bd rfl rfl) ?_
   refine Ym ?_
   refine Flow.split 29 rfl (fun k7_9 => ?_) (fun k7_9 => ?_)
   ·refine Yk ?_
    iterate 13 refine Yk ?_
    refine Yo rfl (A7 rfl rfl rfl) ?_
    refine Flow.end rfl ?_
    simp only [zq, zr]
    refine Fin.then ?_
    refine AI rfl ?_
    refine Zs ?_
    refine Za ?_
    refine Zx <| DC.ret <| Ae <| Aa <| Aa <| Ae <| Ae <| Aa <| Aa <| Ae <| Aa ?_
    refine Fin.weak (E' := [(2, _)]) ⟨rfl, trivial⟩ .nil ?_
    refine Zh ?_
    refine ⟨rfl, false, rfl, by simp; rintro ⟨_, h2⟩; have := h2 i l hl k x a hx ha; simp_all⟩
   iterate 2 refine Ym ?_
   refine Yo rfl (Aj (ad' := ad.add i) rfl rfl rfl TW BE (by omega) (by omega) rfl) ?_
   refine Am rfl rfl rfl rfl (Ai rfl rfl BA (Aw hc)) ?_
   refine Ym ?_
   refine Yo rfl (Aj (ad' := adl.add k) rfl rfl rfl TT AQ (by omega) (by omega) rfl) ?_
   refine Am rfl rfl rfl rfl (Ai rfl rfl AJ (Aw hcx)) ?_
   iterate 2 refine Ym ?_
   refine Yo rfl (Aj (ad' := ad.add i) rfl rfl rfl TW BE (by omega) (by omega) rfl) ?_
   refine Am rfl rfl rfl rfl (Ai rfl rfl BA (Aw hc)) ?_
   refine Yo rfl (Aj (ad' := adl.add 0) rfl rfl rfl TT AQ (by omega) (by omega) rfl) ?_
   refine Am rfl rfl rfl rfl (Ai rfl rfl AJ (Aw hca)) ?_
   refine Yo rfl (E7 rfl rfl rfl) ?_
   refine Yo rfl (AZ rfl rfl rfl) ?_
   refine Flow.end rfl ?_
   simp only [zq, zr]
   refine Fin.then ?_
   refine Zd (fun c7 => ?_) fun c7 => ?_
   ·refine Zs ?_
    refine Za ?_
    refine Zx <| DC.ret <| Ae <| Aa <| Aa <| Ae <| Ae <| Aa <| Aa <| Ae <| Aa ?_
    refine Fin.weak (E' := [(2, _)]) ⟨rfl, trivial⟩ .nil ?_
    refine Zh ?_
    refine ⟨rfl, false, rfl, by simp; rintro ⟨_, h2⟩; have := h2 i l hl k x a hx ha; simp_all; omega⟩
   refine DC.skip <| Fin.inBlock <| Fin.then <| DC.region ?_
   refine Zm ?_
   refine Zp ?_
   refine Za ?_
   refine Seq.nil ?_
   refine Ag (k + 1) (by omega) ⟨by omega, ?_⟩ ⟨rfl, rfl, rfl, trivial⟩ .nil
   intro j x' a' hj hx' ha'
   rcases TE.1 hj with hj | rfl
   ·exact hokl j x' a' hj hx' ha'
   rw [hx] at hx'; cases hx'; rw [ha] at ha'; cases ha'
   simp at k7_9 c7
   exact ⟨hb1.1 k7_9, by omega⟩
  refine DC.exit <| Ad <| Ad <| Ah <| Fin.inBlock <| Fin.then <| DC.region ?_
  refine Zm ?_
  refine Zp ?_
  refine Za ?_
  refine Seq.nil ?_
  have hkl : k = l.length := by simp at c5; omega
  subst hkl
  refine Ag (i + 1) (by omega) ⟨by omega, ?_⟩ ⟨rfl, rfl, trivial⟩ .nil
  intro j l' hj hl'
  rcases TE.1 hj with hj | rfl
  ·exact hok j l' hj hl'
  rw [hl] at hl'; cases hl'
  intro q x' a' hq ha'
  exact hokl q x' a' (TA.1 hq).1 hq ha'
 refine DC.exit <| Ad <| Ad <| Ah <| Fin.then <| Zs ?_
 refine Zm ?_
 refine Zn TW ?_
 refine Zo (HF rfl rfl rfl) ?_
 refine Za ?_
 refine Zx <| DC.ret ?_
 refine Fin.weak (E' := [(2, _)]) ⟨rfl, trivial⟩ .nil ?_
 refine Zh ?_
 have hil : i = ls.length := by simp at c2; omega
 subst hil
 refine ⟨rfl, _, rfl, ?_⟩
 constructor
 ·intro h
  exact ⟨by simp at h; omega, fun j l hl => hok j l (TA.1 hl).1 hl⟩
 intro h
 have := h.1
 simp; omega
theorem Hr {es : List Pr} {v : Value} {w : World} (hv : PrV w v es) : Calls Tryz.prog 61 #[v] w (Ret w [] fun v L => L = [] ∧ ∃ b, v = .bool b ∧ (b = true ↔ EdgesOk es)) := by
 obtain ⟨A, cap, rfl, hr, hlc, hcm, hle⟩ := hv
 refine Ao (args := [_]) (L := []) Tryz.func61 rfl Tryz.ntmps61 rfl (Own.start _ _) ?_
 refine Zs ?_
 refine Za ?_
 refine Zx <| DC.seq <| Zs ?_
 refine Za ?_
 refine Zx <| DC.block ?_
 refine DC.loop (ι := Nat) (fun i => i ≤ es.length ∧ (∀ (j : Nat) e, j < i → es[j]? = some e → Fits e.1 ∧ Fits e.2 ∧ e.1 < e.2) ∧ ∀ (j : Nat) a b, j + 1 < i → es[j]? = some a → es[j + 1]? = some b → Lex a b)
  (fun i => [(0, .slice A es.length cap), (3, .int .i64 i)])
  (fun i => []) (fun i => es.length - i) 0 ⟨Nat.zero_le _, fun _ _ h => absurd h (TS _), fun _ _ _ h => absurd h (TS _)⟩ ⟨rfl, rfl, trivial⟩ .nil ?_
 rintro i ⟨hi, hok, hup⟩
 refine DC.seq <| Zs ?_
 iterate 2 refine Zm ?_
 refine Zn TU ?_
 refine Zc ?_
 refine Zx ?_
 refine Zd (fun c2 => ?_) fun c2 => ?_
 ·have hlt : i < es.length := by simpa using c2
  obtain ⟨e, he⟩ : ∃ e, es[i]? = some e := ⟨_, Tz hlt⟩
  obtain ⟨ad, rfl, hU, hV⟩ := hr.pair he
  refine DC.skip <| Fin.then <| DC.seq <| DC.block <| DC.seq <| DC.seq ?_
  refine AF (cl := [.q, .q, .q, .q, .v, .r, .q, .q, .q, .q, .q, .q, .v, .r, .q, .q, .q, .q, .q, .q, .q, .v, .q, .q, .q, .q, .v, .q, .q]) (A := [0, 0, 3, 7, 15, 31, 63, 127, 255, 255, 1023, 2047, 4095, 8191, 16383, 32767, 65535, 131071, 131071, 524287, 1048575, 2097151, 131071, 131071, 12713983, 29491199, 63045631, 134217727, 268435455]) (order := [0, 1, 2, 3, 4, 5, 6, 7, 8, 9, 10, 11, 12, 13, 14, 15, 16, 17, 18, 19, 20, 21, 22, 23, 24, 25, 26, 27, 28]) [] mixed (by kernel_rfl) (fun w hw => hw.pick .nil) ?_
  iterate 2 refine Ym ?_
  refine Yo rfl (AM (ad' := ad.add (i * 2)) rfl rfl rfl TU AY (by omega) (by omega) rfl) ?_
  refine Yo rfl (Bq (ad' := ad.add (i * 2)) rfl rfl Bb (by simp [Addr.add])) ?_
  refine Am rfl rfl rfl rfl (Ai rfl rfl AJ (Aw hU)) ?_
  refine Flow.rel0 rfl rfl rfl rfl (Ar RQ rfl rfl rfl (fun w' hw => C8 e.1 w')) ?_
  rintro _ ⟨b1, rfl, hb1⟩
  refine Yo rfl (Bd rfl rfl) ?_
  refine Ym ?_
  refine Flow.split 17 rfl (fun k4_7 => ?_) (fun k4_7 => ?_)
  ·refine Yk ?_
   iterate 6 refine Yk ?_
   refine Yo rfl (A7 rfl rfl rfl) ?_
   refine Ym ?_
   iterate 11 refine Yk ?_
   refine Yo rfl (A7 rfl rfl rfl) ?_
   refine Flow.end rfl ?_
   simp only [zq, zr]
   refine Fin.then ?_
   refine AI rfl ?_
   refine Zs ?_
   refine Za ?_
   refine Zx <| DC.ret <| Aa <| Ae <| Aa <| Aa <| Ae <| Aa ?_
   refine Fin.weak (E' := [(2, _)]) ⟨rfl, trivial⟩ .nil ?_
   refine Zh ?_
   exact ⟨rfl, false, rfl, by simp; intro h; have := h.ok i e he; simp_all⟩
  iterate 2 refine Ym ?_
  refine Yo rfl (AM (ad' := ad.add (i * 2)) rfl rfl rfl TU AY (by omega) (by omega) rfl) ?_
  refine Yo rfl (Bq (ad' := ad.add (i * 2 + 1)) rfl rfl Bk (B6 _ _ _ (by decide))) ?_
  refine Am rfl rfl rfl rfl (Ai rfl rfl AJ (Aw hV)) ?_
  refine Flow.rel0 rfl rfl rfl rfl (Ar RQ rfl rfl rfl (fun w' hw => C8 e.2 w')) ?_
  rintro _ ⟨b2, rfl, hb2⟩
  refine Yo rfl (Bd rfl rfl) ?_
  refine Yo rfl (AZ rfl rfl rfl) ?_
  refine Ym ?_
  refine Flow.split 26 rfl (fun k4_16 => ?_) (fun k4_16 => ?_)
  ·refine Yk ?_
   iterate 10 refine Yk ?_
   refine Yo rfl (A7 rfl rfl rfl) ?_
   refine Flow.end rfl ?_
   simp only [zq, zr]
   refine Fin.then ?_
   refine AI rfl ?_
   refine Zs ?_
   refine Za ?_
   refine Zx <| DC.ret <| Aa <| Ae <| Aa <| Aa <| Ae <| Aa ?_
   refine Fin.weak (E' := [(2, _)]) ⟨rfl, trivial⟩ .nil ?_
   refine Zh ?_
   exact ⟨rfl, false, rfl, by simp; intro h; have := h.ok i e he; simp_all⟩
  iterate 2 refine Ym ?_
  refine Yo rfl (AM (ad' := ad.add (i * 2)) rfl rfl rfl TU AY (by omega) (by omega) rfl) ?_
  refine Yo rfl (Bq (ad' := ad.add (i * 2)) rfl rfl Bb (by simp [Addr.add])) ?_
  refine Am rfl rfl rfl rfl (Ai rfl rfl AJ (Aw hU)) ?_
  iterate 2 refine Ym ?_
  refine Yo rfl (AM (ad' := ad.add (i * 2)) rfl rfl rfl TU AY (by omega) (by omega) rfl) ?_
  refine Yo rfl (Bq (ad' := ad.add (i * 2 + 1)) rfl rfl Bk (B6 _ _ _ (by decide))) ?_
  refine Am rfl rfl rfl rfl (Ai rfl rfl AJ (Aw hV)) ?_
  refine Yo rfl (Cc rfl rfl rfl) ?_
  refine Yo rfl (AZ rfl rfl rfl) ?_
  refine Flow.end rfl ?_
  simp only [zq, zr]
  refine Fin.then ?_
  refine Zd (fun c4 => ?_) fun c4 => ?_
  ·refine Zs ?_
   refine Za ?_
   refine Zx <| DC.ret <| Aa <| Ae <| Aa <| Aa <| Ae <| Aa ?_
   refine Fin.weak (E' := [(2, _)]) ⟨rfl, trivial⟩ .nil ?_
   refine Zh ?_
   exact ⟨rfl, false, rfl, by simp; intro h; have := h.ok i e he; simp_all; omega⟩
  refine DC.skip <| Fin.then <| DC.seq ?_
  have hge : Fits e.1 ∧ Fits e.2 ∧ e.1 < e.2 := by
   simp at k4_7 k4_16 c4
   exact ⟨hb1.1 k4_7, hb2.1 k4_16, by omega⟩
  have hok' : ∀ (j : Nat) x, j < i + 1 → es[j]? = some x → Fits x.1 ∧ Fits x.2 ∧ x.1 < x.2 := by
   intro j x hj hx
   rcases TE.1 hj with hj | rfl
   ·exact hok j x hj hx
   rw [he] at hx; cases hx; exact hge
  have hup' : (∀ d, 0 < i → es[i - 1]? = some d → Lex d e) → ∀ (j : Nat) a b, j + 1 < i + 1 → es[j]? = some a → es[j + 1]? = some b → Lex a b := by
   intro hlex j a b hj ha hb
   rcases TE.1 hj with hj | hj
   ·exact hup j a b hj ha hb
   obtain rfl : j = i - 1 := by omega
   rw [show i - 1 + 1 = i by omega, he] at hb; cases hb
   exact hlex a (by omega) ha
  have hbad : ∀ d, 0 < i → es[i - 1]? = some d → ¬ Lex d e → ¬ EdgesOk es := fun d hi hd hn h => hn (h.up (i - 1) d e hd (by rw [show i - 1 + 1 = i by omega]; exact he))
  refine AF (cl := [.q, .q, .q, .q, .q, .q, .q, .q, .v, .q, .q, .q, .q, .v, .q, .q, .q, .q, .q, .q, .q, .v, .q, .q, .q, .q, .v, .q, .q, .q, .q, .q, .q, .q, .v, .q, .q, .q, .q, .v, .q, .q, .q, .q]) (A := [0, 1, 3, 7, 7, 23, 63, 127, 255, 7, 7, 1543, 3591, 7687, 16383, 32767, 65535, 65535, 196607, 524287, 1048575, 2097151, 65535, 65535, 12648447, 29425663, 62980095, 134217727, 268435455, 536870911, 536870911, 1610612735, 4294967295, 8589934591, 17179869183, 536870911, 536870911, 103616086015, 241055039487, 515932946431, 1099511627775, 2199023255551, 4398046511103, 8796093022207]) (order := [0, 1, 2, 3, 4, 5, 6, 7, 8, 9, 10, 11, 12, 13, 14, 15, 16, 17, 18, 19, 20, 21, 22, 23, 24, 25, 26, 27, 28, 29, 30, 31, 32, 33, 34, 35, 36, 37, 38, 39, 40, 41, 42, 43]) [] mixed (by kernel_rfl) (fun w hw => hw.pick .nil) ?_
  refine Ym ?_
  refine Yo rfl (Bs rfl rfl rfl) ?_
  refine Ym ?_
  refine Flow.split 41 rfl (fun k6_2 => ?_) (fun k6_2 => ?_)
  ·have hpos : 0 < i := by simpa using k6_2
   obtain ⟨d, hd⟩ : ∃ d, es[i - 1]? = some d := ⟨_, Tz (by omega)⟩
   obtain ⟨ad', h', hU', hV'⟩ := hr.pair hd
   cases h'
   have hii : ((i : Int) - 1).toNat = i - 1 := by omega
   iterate 2 refine Ym ?_
   refine Yo rfl (Bv rfl rfl rfl (by omega)) ?_
   refine Yo rfl (AM (ad' := ad.add ((i - 1) * 2)) rfl rfl rfl TU AY (by omega) (by omega) (by rw [hii])) ?_
   refine Yo rfl (Bq (ad' := ad.add ((i - 1) * 2)) rfl rfl Bb (by simp [Addr.add])) ?_
   refine Am rfl rfl rfl rfl (Ai rfl rfl AJ (Aw hU')) ?_
   iterate 2 refine Ym ?_
   refine Yo rfl (AM (ad' := ad.add (i * 2)) rfl rfl rfl TU AY (by omega) (by omega) rfl) ?_
   refine Yo rfl (Bq (ad' := ad.add (i * 2)) rfl rfl Bb (by simp [Addr.add])) ?_
   refine Am rfl rfl rfl rfl (Ai rfl rfl AJ (Aw hU)) ?_
   refine Yo rfl (Bs rfl rfl rfl) ?_
   refine Ym ?_
   refine Flow.split 54 rfl (fun k6_15 => ?_) (fun k6_15 => ?_)
   ·refine Yk ?_
    iterate 25 refine Yk ?_
    refine Yo rfl (A7 rfl rfl rfl) ?_
    refine Yo rfl (A7 rfl rfl rfl) ?_
    refine Flow.end rfl ?_
    simp only [zq, zr]
    refine Fin.then ?_
    refine AI rfl ?_
    refine Zs ?_
    refine Za ?_
    refine Zx <| DC.ret <| Ae <| Aa <| Aa <| Ae <| Aa ?_
    refine Fin.weak (E' := [(2, _)]) ⟨rfl, trivial⟩ .nil ?_
    refine Zh ?_
    exact ⟨rfl, false, rfl, by simp; refine hbad d hpos hd ?_; unfold Lex; simp at k6_15; omega⟩
   iterate 2 refine Ym ?_
   refine Yo rfl (Bv rfl rfl rfl (by omega)) ?_
   refine Yo rfl (AM (ad' := ad.add ((i - 1) * 2)) rfl rfl rfl TU AY (by omega) (by omega) (by rw [hii])) ?_
   refine Yo rfl (Bq (ad' := ad.add ((i - 1) * 2)) rfl rfl Bb (by simp [Addr.add])) ?_
   refine Am rfl rfl rfl rfl (Ai rfl rfl AJ (Aw hU')) ?_
   iterate 2 refine Ym ?_
   refine Yo rfl (AM (ad' := ad.add (i * 2)) rfl rfl rfl TU AY (by omega) (by omega) rfl) ?_
   refine Yo rfl (Bq (ad' := ad.add (i * 2)) rfl rfl Bb (by simp [Addr.add])) ?_
   refine Am rfl rfl rfl rfl (Ai rfl rfl AJ (Aw hU)) ?_
   refine Yo rfl (AN rfl rfl rfl) ?_
   refine Ym ?_
   refine Flow.split 67 rfl (fun k6_28 => ?_) (fun k6_28 => ?_)
   ·refine Ym ?_
    refine Ym ?_
    refine Yo rfl (Bv rfl rfl rfl (by omega)) ?_
    refine Yo rfl (AM (ad' := ad.add ((i - 1) * 2)) rfl rfl rfl TU AY (by omega) (by omega) (by rw [hii])) ?_
    refine Yo rfl (Bq (ad' := ad.add ((i - 1) * 2 + 1)) rfl rfl Bk (B6 _ _ _ (by decide))) ?_
    refine Am rfl rfl rfl rfl (Ai rfl rfl AJ (Aw hV')) ?_
    iterate 2 refine Ym ?_
    refine Yo rfl (AM (ad' := ad.add (i * 2)) rfl rfl rfl TU AY (by omega) (by omega) rfl) ?_
    refine Yo rfl (Bq (ad' := ad.add (i * 2 + 1)) rfl rfl Bk (B6 _ _ _ (by decide))) ?_
    refine Am rfl rfl rfl rfl (Ai rfl rfl AJ (Aw hV)) ?_
    refine Yo rfl (Cc rfl rfl rfl) ?_
    refine Yo rfl (A7 rfl rfl rfl) ?_
    refine Yo rfl (AZ rfl rfl rfl) ?_
    refine Yo rfl (A7 rfl rfl rfl) ?_
    refine Flow.end rfl ?_
    simp only [zq, zr]
    refine Fin.then ?_
    refine Zd (fun c6 => ?_) fun c6 => ?_
    ·refine Zs ?_
     refine Za ?_
     refine Zx <| DC.ret <| Ae <| Aa <| Aa <| Ae <| Aa ?_
     refine Fin.weak (E' := [(2, _)]) ⟨rfl, trivial⟩ .nil ?_
     refine Zh ?_
     exact ⟨rfl, false, rfl, by simp; refine hbad d hpos hd ?_; unfold Lex; simp at k6_15 k6_28 c6; omega⟩
    refine DC.skip <| Fin.inBlock <| Fin.then <| DC.region ?_
    refine Zm ?_
    refine Zp ?_
    refine Za ?_
    refine Seq.nil ?_
    refine Ag (i + 1) (by omega) ⟨by omega, hok', hup' fun d' _ hd' => ?_⟩ ⟨rfl, rfl, trivial⟩ .nil
    rw [hd] at hd'; cases hd'
    unfold Lex; simp at k6_15 k6_28 c6; omega
   iterate 12 refine Yk ?_
   refine Yo rfl (AZ rfl rfl rfl) ?_
   refine Yo rfl (AZ rfl rfl rfl) ?_
   refine Yo rfl (A7 rfl rfl rfl) ?_
   refine Flow.end rfl ?_
   simp only [zq, zr]
   refine Fin.then ?_
   refine AT rfl ?_
   refine DC.skip <| Fin.inBlock <| Fin.then <| DC.region ?_
   refine Zm ?_
   refine Zp ?_
   refine Za ?_
   refine Seq.nil ?_
   refine Ag (i + 1) (by omega) ⟨by omega, hok', hup' fun d' _ hd' => ?_⟩ ⟨rfl, rfl, trivial⟩ .nil
   rw [hd] at hd'; cases hd'
   unfold Lex; simp at k6_15 k6_28; omega
  iterate 40 refine Yk ?_
  refine Yo rfl (AZ rfl rfl rfl) ?_
  refine Flow.end rfl ?_
  simp only [zq, zr]
  refine Fin.then ?_
  refine AT rfl ?_
  refine DC.skip <| Fin.inBlock <| Fin.then <| DC.region ?_
  refine Zm ?_
  refine Zp ?_
  refine Za ?_
  refine Seq.nil ?_
  refine Ag (i + 1) (by omega) ⟨by omega, hok', hup' fun d' h0 hd' => ?_⟩ ⟨rfl, rfl, trivial⟩ .nil
  simp at k6_2; omega
 refine DC.exit <| Ad <| Ad <| Ah <| Fin.then <| Zs ?_
 refine Zm ?_
 refine Zn TU ?_
 refine Zo (HF rfl rfl rfl) ?_
 refine Za ?_
 refine Zx <| DC.ret ?_
 refine Fin.weak (E' := [(2, _)]) ⟨rfl, trivial⟩ .nil ?_
 refine Zh ?_
 have hil : i = es.length := by simp at c2; omega
 subst hil
 refine ⟨rfl, _, rfl, ?_⟩
 constructor
 ·intro h
  exact ⟨by simp at h; omega, fun j e he => hok j e (TA.1 he).1 he, fun j a b ha hb => hup j a b (TA.1 hb).1 ha hb⟩
 intro h
 have := h.few
 simp; omega
structure TxI where
 k : Nat
 s : List UInt8
theorem NC {u : Nat} (h : u < 10) : Lib.decDigits u = [UInt8.ofNat (48 + u)] := by rw [Lib.decDigits, dif_pos h]
theorem PW {u : Nat} (h : ¬ u < 10) : Lib.decDigits u = Lib.decDigits (u / 10) ++ [UInt8.ofNat (48 + u % 10)] := by rw [Lib.decDigits, dif_neg h]
theorem Rw {d : Nat} (h : d < 10) : (((UInt8.ofNat (48 + d)).toNat : Nat) : Int) = 48 + (d : Int) := by
 have : (UInt8.ofNat (48 + d)).toNat = 48 + d := by
  rw [UInt8.toNat_ofNat']
  omega
 rw [this]; omega
theorem CH {a : Nat} {w : World} (ha : a ≤ 1000000000) : Calls Tryz.prog 62 #[.int .i64 a] w (Ret w [] fun v L => L = [] ∧ v = str (Lib.itoa a)) := by
 have hito : Lib.itoa (a : Int) = Lib.decDigits a := by unfold Lib.itoa; rw [if_neg (by omega)]; rfl
 rw [hito]
 have hdl := CZ 9 a (by omega)
 refine Ao (args := [_]) (L := []) Tryz.func62 rfl Tryz.ntmps62 rfl (Own.start _ _) ?_
 refine Zs ?_
 refine Za ?_
 refine Zx <| DC.seq <| Zs ?_
 refine Zm ?_
 refine Zo (AN rfl rfl rfl) ?_
 refine Zx ?_
 refine Zd (fun c1 => ?_) fun c1 => ?_
 ·refine Zs ?_
  refine Za ?_
  refine Zx <| DC.ret <| Aa ?_
  refine Fin.weak (E' := [(2, _)]) ⟨rfl, trivial⟩ .nil ?_
  refine Zh ?_
  have h0 : a = 0 := by simp at c1; omega
  subst h0
  exact ⟨rfl, by rw [NC (by decide)]; rfl⟩
 refine DC.skip <| Fin.then <| Zs ?_
 refine Za ?_
 refine Zx <| DC.seq <| Zs ?_
 refine Zm ?_
 refine Za ?_
 refine Zx <| DC.block ?_
 have ha0 : a ≠ 0 := by simp at c1; omega
 refine DC.loop (ι := TxI) (fun j => j.k ≤ a ∧ (if j.k = 0 then j.s = Lib.decDigits a else Lib.decDigits j.k ++ j.s = Lib.decDigits a))
  (fun j => [(0, .int .i64 a), (3, str j.s), (4, .int .i64 j.k)]) (fun j => []) (fun j => j.k) ⟨a, []⟩ ⟨Nat.le_refl _, by rw [if_neg ha0]; simp⟩ ⟨rfl, rfl, rfl, trivial⟩ .nil ?_
 rintro ⟨k, s⟩ ⟨hk, hs⟩
 dsimp only at hk hs ⊢
 refine DC.seq <| Zs ?_
 refine Zm ?_
 refine Zo (BK rfl rfl rfl) ?_
 refine Zx ?_
 refine Zd (fun c5 => ?_) fun c5 => ?_
 ·have hk0 : k ≠ 0 := by simp at c5; omega
  rw [if_neg hk0] at hs
  have hsl : s.length ≤ 10 := by have := congrArg List.length hs; simp at this; omega
  have hmod : (k : Int) % 10 = ((k % 10 : Nat) : Int) := by omega
  have hdiv : (k : Int) / 10 = ((k / 10 : Nat) : Int) := by omega
  have hd : k % 10 < 10 := Nat.mod_lt _ (by decide)
  have hcell : (Value.int .u8 (48 + (k : Int) % 10)) = .int .u8 (UInt8.ofNat (48 + k % 10)).toNat := by rw [Rw hd, hmod]
  have hstep : if k / 10 = 0 then UInt8.ofNat (48 + k % 10) :: s = Lib.decDigits a else Lib.decDigits (k / 10) ++ UInt8.ofNat (48 + k % 10) :: s = Lib.decDigits a := by
   by_cases hz : k / 10 = 0
   ·rw [if_pos hz, ← hs, NC (by omega), Nat.mod_eq_of_lt (by omega)]; rfl
   rw [if_neg hz, ← hs, PW (u := k) (by omega)]; simp
  refine DC.skip <| Fin.then <| DC.seq <| DC.block <| Zs ?_
  refine Zm ?_
  refine Zo (IW rfl rfl rfl (by omega) (by omega)) ?_
  refine Za ?_
  refine Zx <| DC.seq <| Zs ?_
  refine Zm ?_
  refine Zc ?_
  refine Zx ?_
  refine Zd (fun c8 => ?_) fun c8 => ?_
  ·simp at c8; omega
  refine DC.skip <| Fin.then <| DC.region ?_
  refine Zm ?_
  refine Zp ?_
  refine Zo (N1 rfl rfl Tryz.underlying3 Tryz.underlying5 (by omega) (by omega)) ?_
  refine Zw (AP (cs := #[_]) rfl rfl TV Dw Et rfl (by decide) (by decide) rfl rfl) fun g22 => ?_
  refine Zu (Ev (l := [UInt8.ofNat (48 + k % 10)]) rfl rfl rfl TV Tryz.underlying5 Tryz.underlying9 (Ak (by simp only [hcell]; rfl))) ?_
  refine Zm ?_
  refine Zo (FH rfl rfl rfl (by simp; omega)) ?_
  refine Za ?_
  refine Seq.nil <| Fin.inBlock <| Fin.then <| DC.region ?_
  refine Zm ?_
  refine Zo (IX rfl rfl rfl (by omega) (by omega)) ?_
  refine Za ?_
  refine Seq.nil ?_
  refine Ag ⟨k / 10, UInt8.ofNat (48 + k % 10) :: s⟩ (by dsimp only; omega) ⟨by dsimp only; omega, hstep⟩ ⟨rfl, rfl, by rw [hdiv]; rfl, trivial⟩ .nil
 refine DC.exit <| Ad <| Ad <| Ah <| Fin.then <| DC.seq <| Zs ?_
 refine Zm ?_
 refine Zc ?_
 refine Zx ?_
 refine Zd (fun c11 => ?_) fun c11 => ?_
 ·simp at c11; omega
 refine DC.skip <| Fin.then <| Zs ?_
 refine Zm ?_
 refine Za ?_
 refine Zx <| DC.ret ?_
 refine Fin.weak (E' := [(2, _)]) ⟨rfl, trivial⟩ .nil ?_
 refine Zh ?_
 have hk0 : k = 0 := by simp at c5; omega
 rw [if_pos hk0] at hs
 exact ⟨rfl, by rw [hs]⟩
def Pow (w : World) : Prop := Lib.TabIs Tryz.prog w "internal/strconv.uint64pow10" .u64 Lib.pow10Tab
theorem Pow.keep0 {w0 w : World} {L : List Chunk} (h : Pow w0) (hw : Own w0 [] w L) : Pow w := by
 unfold Pow Lib.TabIs World.var? at *
 cases hg : Tryz.prog.globalNamed "internal/strconv.uint64pow10" with
 | none => rw [hg] at h; cases h
 | some g =>
  rw [hg] at h
  simp only [Option.bind_some] at h ⊢
  have hlt : g < w0.heap.size := by
   rcases Nat.lt_or_ge g w0.heap.size with h1 | h1
   ·exact h1
   rw [Array.getElem?_eq_none h1] at h; cases h
  rw [hw.old g hlt (by simp)]; exact h
theorem Mr {a : Int} {w : World} (ha : I64 a) (hp : Pow w) : Calls Tryz.prog 110 #[.int .i64 a] w (Ret w [] fun v L => L = [] ∧ v = str (Lib.itoa a)) := by
 refine (Tryz.strconv_Itoa a ha.1 ha.2 w hp).mono ?_
 rintro e w' ⟨rfl, k, os, rfl⟩
 exact ⟨_, [], rfl, ⟨rfl, rfl⟩, HI w k os⟩
theorem LZ {a : Int} {w : World} (ha : I64 a) (hp : Pow w) : Calls Tryz.prog 83 #[.int .i64 a] w (Ret w [] fun v L => L = [] ∧ v = str (Lib.itoa a)) := by
 refine Ao (args := [_]) (L := []) Tryz.func83 rfl Tryz.ntmps83 rfl (Own.start _ _) ?_
 refine Zs ?_
 refine Za ?_
 refine Zx <| Zs ?_
 refine Zm ?_
 refine Seq.rel0 rfl rfl (Ar Ti rfl rfl rfl (fun w hw => Mr ha (hp.keep0 hw))) ?_
 rintro _ rfl
 refine Za ?_
 refine Zx <| DC.ret ?_
 refine Zh ?_
 exact ⟨rfl, rfl⟩
theorem Lb {c : Nat} {w : World} : Calls Tryz.prog 84 #[.slice none 0 c, str [32]] w (Ret w [] fun v L => L = [] ∧ v = str []) := by
 refine (Tryz.strings_Join_none none c _ w).mono ?_
 rintro e w' ⟨rfl, rfl⟩
 exact ⟨_, [], rfl, ⟨rfl, rfl⟩, Own.start _ _⟩
theorem La {g c t : Nat} {xs : List (List UInt8)} {sp : List Value} {w : World} (hb : w.heap[g]? = some (.cells (strs xs ++ sp).toArray t (0, 0))) (hN : xs.length ≤ 140737488355328) (hc : xs.length ≤ c) (hl : (Lib.join xs [32]).length ≤ 140737488355328) :
  Calls Tryz.prog 84 #[.slice (some ⟨g, 0, none⟩) xs.length c, str [32]] w (Ret w [] fun v L => L = [] ∧ v = str (Lib.join xs [32])) := by
 have e1 : (xs.map fun l => (⟨l.toArray⟩ : ByteArray)).map (·.data.toList) = xs := by rw [List.map_map]; exact List.map_id'' (fun _ => rfl) xs
 have h := Tryz.strings_Join g 0 c (xs.map fun l => (⟨l.toArray⟩ : ByteArray)) ⟨[32].toArray⟩ w ?_ ?_ (by simpa using hN) (by simpa using hc) (by rw [e1]; exact hl)
 ·rw [e1] at h
  simp only [List.length_map] at h
  refine h.mono ?_
  rintro e w' ⟨rfl, hbl⟩
  exact ⟨_, [], rfl, ⟨rfl, rfl⟩, own_below hbl⟩
 ·intro j x hj
  simp only [List.getElem?_map, Option.map_eq_some_iff] at hj
  obtain ⟨l, hl, rfl⟩ := hj
  rw [cell_of_row w g _ _ t (0, 0) hb]
  have : j < xs.length := (TA.1 hl).1
  rw [Tz this] at hl; cases hl
  simp [strs, List.getElem?_append, this, str]
 exact (TP.1 hb).1
theorem Mq {xs : List (List UInt8)} {v : Value} {w0 w : World} {K : List Nat} {F : List Chunk} (hO : Own w0 K w (slc v 9 1 (strs xs) :: F)) (hN : xs.length ≤ 140737488355328) (hl : (Lib.join xs [32]).length ≤ 140737488355328) :
  Calls Tryz.prog 84 #[v, str [32]] w (Ret w [] fun v L => L = [] ∧ v = str (Lib.join xs [32])) := by
 rcases B9 hO with ⟨rfl, e2, _⟩ | ⟨g, len, cap', sp, rfl, e2, e3, e4, e5, hO'⟩
 ·have e3 : xs = [] := by simpa [strs] using e2
  subst e3; exact Lb
 have e6 : len = xs.length := by simpa [strs] using e2.symm
 subst e6
 exact La (hO'.holds _ (TI ..)) hN e3 hl
structure LineI where
 i : Nat
 v : Value
theorem Fm {ns : List Int} {v : Value} {w : World} (hv : SlV w v ns) (hi : ∀ a, a ∈ ns → I64 a) (hp : Pow w) (hl : ns.length ≤ 2199023255552) :
  Calls Tryz.prog 43 #[v] w (Ret w [] fun v L => L = [] ∧ v = str (lineB ns)) := by
 obtain ⟨A, cap, rfl, hr, hlc, hcm, hle⟩ := hv
 refine Ao (args := [_]) (L := []) Tryz.func43 rfl Tryz.ntmps43 rfl (Own.start _ _) ?_
 refine Zs ?_
 refine Za ?_
 refine Zx <| Zs ?_
 refine Za ?_
 refine Zx <| DC.seq <| Zs ?_
 refine Zm ?_
 refine Zn TT ?_
 refine Zm ?_
 refine Zx <| DC.block ?_
 refine DC.own (fun w hw => AX (t := 9) (m := 1) hw) ?_
 refine DC.loop (ι := LineI) (fun j => j.i ≤ ns.length)
  (fun j => [(3, j.v), (6, .slice A ns.length cap), (7, .int .i64 ns.length), (8, .int .i64 j.i)])
  (fun j => [slc j.v 9 1 (strs ((ns.take j.i).map Lib.itoa))]) (fun j => ns.length - j.i) ⟨0, .slice none 0 0⟩ (Nat.zero_le _) ⟨rfl, rfl, rfl, rfl, trivial⟩ (.cons 0 rfl .nil) ?_
 rintro ⟨i, v3⟩ hi'
 dsimp only at hi' ⊢
 refine Zs ?_
 refine Zc ?_
 refine Zx <| DC.seq ?_
 refine Zd (fun c3 => ?_) fun c3 => ?_
 ·have hlt : i < ns.length := by simpa using c3
  obtain ⟨x, hx⟩ : ∃ x, ns[i]? = some x := ⟨_, Tz hlt⟩
  obtain ⟨ad, rfl, hcx⟩ := hr.int hx
  have hxi : I64 x := hi x (TD hx)
  refine DC.skip <| Fin.then <| DC.seq <| DC.block <| Zs ?_
  refine Zi TT AQ ?_
  refine Zu (Ai rfl rfl AJ (Aw hcx)) ?_
  refine Za ?_
  refine Zx <| DC.region ?_
  iterate 2 refine Zm ?_
  refine Seq.rel0 rfl rfl (Ar en83 rfl rfl rfl (fun w hw => LZ hxi (hp.keep0 hw))) ?_
  rintro _ rfl
  refine Zw (AP (cs := #[_]) rfl rfl Tryz.underlying150 sz9 ze9 rfl (by decide) (by decide) rfl rfl) fun g15 => ?_
  refine Seq.gen rfl rfl (AK rfl rfl rfl Tryz.underlying150 sz9 by9 ze9 rfl (by decide) (by decide) (fun w hw => hw.pick (.cons 1 rfl .nil)) (.inl ⟨_, _, rfl, Ak rfl⟩) rfl (OP [Lib.itoa x]) (by simp; omega)) ?_
  rintro v16 _ rfl
  refine Za ?_
  refine Seq.nil <| Fin.inBlock <| Fin.then <| DC.region ?_
  refine Zp ?_
  refine Zm ?_
  refine Seq.nil ?_
  refine Ag ⟨i + 1, v16⟩ (by dsimp only; omega) (by dsimp only; omega) ⟨rfl, rfl, rfl, rfl, trivial⟩ (.cons' 0 rfl (by rw [List.take_add_one, hx]; simp [strs]) .nil)
 refine DC.exit <| Ad <| Ad <| Ah <| Fin.then <| DC.seq ?_
 have hin : i = ns.length := by simp at c3; omega
 subst hin
 simp only [List.take_length]
 have hjl := FM (k := 20) (ns.map Lib.itoa) (by simp; intro a ha; exact Cu (hi a ha))
 simp only [List.length_map] at hjl
 refine DC.region ?_
 refine Zm ?_
 refine Seq.rel0 rfl rfl (Ar en84 rfl rfl rfl (fun w hw => Mq hw (by simp; omega) (by omega))) ?_
 rintro _ rfl
 refine Zo (FH (a := Lib.join (ns.map Lib.itoa) [32]) (b := [10]) rfl rfl rfl (by simp; omega)) ?_
 refine Za ?_
 refine Zx <| DC.ret ?_
 refine Fin.weak (E' := [(2, _)]) ⟨rfl, trivial⟩ .nil ?_
 refine Zh ?_
 exact ⟨rfl, rfl⟩
/-- A builder in block b, its buffer v, that holds these bytes. -/
def bldr (b : Nat) (v : Value) (bs : List UInt8) : Chunk :=
 ⟨b :: v.ownBlock.toList, fun w => ∃ p, (p = .pointer none ∨ p = .pointer (some ⟨b, 0, none⟩)) ∧ w.heap[b]? = some (.cells #[p, v] 95 (0, 0)) ∧
   w.ownsRow b 5 1 v (Lib.byteCells bs).length (Lib.byteCells bs) ∧ v.ownBlock ≠ some b,
  fun w w' h hh => by
   obtain ⟨p, h1, h2, h3, h4⟩ := hh
   exact ⟨p, h1, (h b (TI ..)).trans h2, HH h3 fun g hg => h g (by rw [hg]; simp), h4⟩⟩
theorem Kg {b : Nat} {v : Value} {bs : List UInt8} {w : World} (h : (bldr b v bs).holds w) : Lib.IsBuilder 95 5 b b (Lib.byteCells bs) w := by
 obtain ⟨p, rfl | rfl, h2, h3, h4⟩ := h
 ·exact .inl ⟨Nat.le_refl _, v, h2, h3, h4⟩
 exact .inr ⟨Nat.le_refl _, v, h2, h3, h4⟩
section
variable {w0 w w' : World} {K : List Nat} {n : Nat} {ds : List Deferred} {E : Env} {L F : List Chunk} {o : Oper} {x : Operand} {v : Value} {b : Nat} {bs s : List UInt8}
theorem Pf (hw : Own w0 K w (blk b 95 #[.pointer none, .slice none 0 0] :: F)) : Own w0 K w (bldr b (.slice none 0 0) [] :: F) :=
 GZ (c' := bldr b (.slice none 0 0) []) (by rfl) (fun w hh => ⟨_, .inl rfl, hh, ⟨rfl, .inl ⟨rfl, rfl⟩⟩, by simp [Value.ownBlock]⟩) hw
/-- What a call on a builder leaves: the builder NH. -/
theorem N4 (hw : Own w0 [] w (bldr b v bs :: F)) (hb : RowKit.Below b w w') {v' : Value} (h : (bldr b v' s).holds w') : Own w0 [] w' [bldr b v' s] := by
 have hbf : w0.heap.size ≤ b := by
  rcases hw.fresh b (by simp [bldr]) with h1 | h1
  ·simp at h1
  exact h1
 obtain ⟨p, h1, h2, h3, h4⟩ := h
 refine ⟨hb.os.trans hw.os, hb.tape.trans hw.tape, hb.output.trans hw.output, .inl trivial, Nat.le_trans hw.size hb.size, fun k hk hn => ?_, ?_, fun g hg => .inr ?_, fun g hg => ?_, fun c hc => ?_⟩
 ·rw [hb.block k (by omega)]; exact hw.old k hk hn
 ·simp only [idsOf_cons, idsOf_nil, List.append_nil, bldr, List.nodup_cons]
  refine ⟨fun hm => h4 (by simpa [eq_comm] using hm), ?_⟩
  cases v'.ownBlock <;> simp
 ·simp only [idsOf_cons, idsOf_nil, List.append_nil, bldr, List.mem_cons] at hg
  rcases hg with rfl | hg
  ·exact hbf
  have := (h3.lt g (by simpa [eq_comm] using hg)).1; omega
 ·simp only [idsOf_cons, idsOf_nil, List.append_nil, bldr, List.mem_cons] at hg
  rcases hg with rfl | hg
  ·exact (TP.1 h2).1
  exact (h3.lt g (by simpa [eq_comm] using hg)).2
 simp at hc; subst hc
 exact ⟨p, h1, h2, h3, h4⟩
theorem Pd (hw : Own w0 [] w (bldr b v bs :: F)) (hb : RowKit.Below b w w') : Own w0 [] w' [] := by
 have hbf : w0.heap.size ≤ b := by
  rcases hw.fresh b (by simp [bldr]) with h1 | h1
  ·simp at h1
  exact h1
 exact ⟨hb.os.trans hw.os, hb.tape.trans hw.tape, hb.output.trans hw.output, .inl trivial, Nat.le_trans hw.size hb.size, fun k hk hn => (hb.block k (by omega)).trans (hw.old k hk hn), by simp, by simp, by simp, by simp⟩
theorem Ik (h : (bldr b v bs).holds w) : Calls Tryz.prog 44 #[.pointer (some ⟨b, 0, none⟩)] w (Ret w [] fun u L => L = [] ∧ u = .int .i64 bs.length) := by
 refine (Tryz.Builder_Len b b _ w (Kg h)).mono ?_
 rintro e w' ⟨rfl, rfl⟩
 exact ⟨_, [], rfl, ⟨rfl, by rw [Lib.byteCells_length]⟩, Own.start _ _⟩
theorem Nt {ts : Array Nat} {xs : Array Operand} (ho : o.op = .call ⟨.value x, xs, ts⟩) (hx : ev n E x = some (.func (.func 42) #[] #[]))
  (hxs : evs n E xs.toList = some [.pointer (some ⟨b, 0, none⟩), str s]) (hL : ∀ w, Own w0 [] w L → Own w0 [] w (bldr b v bs :: F)) (hl : bs.length + s.length ≤ 140737488355328) :
  Gen Tryz.prog w0 [] n ds E L o (fun u M => ∃ v', M = [bldr b v' (bs ++ s)]) := by
 intro a w ha hw
 have hw1 := hL w hw
 have hh := hw1.holds _ (TI ..)
 unfold RunsTo
 rw [Ey en42 ho ha hx hxs]
 have hlt := hw1.lt b (by simp [bldr])
 refine Calls.mono (Tryz.Builder_WriteString b b _ ⟨s.toArray⟩ w (Kg hh) (by rw [Lib.byteCells_length]; simpa [ByteArray.size] using hl) (by omega)) ?_
 rintro e w' ⟨rfl, ⟨_, v', h1, h2, h3⟩, hb⟩
 have e1 : Lib.strCells ⟨s.toArray⟩ = Lib.byteCells s := rfl
 rw [e1, ← Lib.byteCells_append] at h2
 exact ⟨_, rfl, _, ⟨v', rfl⟩, N4 hw1 hb ⟨_, .inr rfl, h1, h2, h3⟩⟩
theorem PC {ts : Array Nat} {xs : Array Operand} (ho : o.op = .call ⟨.value x, xs, ts⟩) (hx : ev n E x = some (.func (.func 45) #[] #[]))
  (hxs : evs n E xs.toList = some [.pointer (some ⟨b, 0, none⟩)]) (hL : ∀ w, Own w0 [] w L → Own w0 [] w (bldr b v bs :: F)) :
  Gen Tryz.prog w0 [] n ds E L o (fun u M => u = str bs ∧ M = []) := by
 intro a w ha hw
 have hw1 := hL w hw
 have hh := hw1.holds _ (TI ..)
 unfold RunsTo
 rw [Ey en45 ho ha hx hxs]
 have hlt := hw1.lt b (by simp [bldr])
 refine Calls.mono (Tryz.Builder_String_any b b bs w (Kg hh) (by omega)) ?_
 rintro e w' ⟨rfl, hb⟩
 exact ⟨_, rfl, _, ⟨rfl, rfl⟩, Pd hw1 hb⟩
end
end Go.Fl

namespace Go.Fl
open Go Go.Proofs
theorem Fits.i64 {a : Int} (h : Fits a) : I64 a := by unfold Fits at h; unfold I64; omega
theorem K4 {ls : List (List Int)} {v : Value} {w : World} {i : Nat} {l : List Int} (hv : LsV w v ls) (hl : ls[i]? = some l) (hi : ∀ a, a ∈ l → I64 a) (hp : Pow w) (hf : l.length ≤ 2199023255552) :
  Calls Tryz.prog 48 #[.iface 153 v, .int .i64 i] w (Ret w [] fun v L => L = [] ∧ v = str (lineB l)) := by
 obtain ⟨A, cap, rfl, hr, hlc, hcm, hle⟩ := hv
 have hlt := (TA.1 hl).1
 obtain ⟨ad, lv, rfl, hc, hs⟩ := hr i l hl
 refine Ao (args := [_, _]) (L := []) Tryz.func48 rfl Tryz.ntmps48 rfl (Own.start _ _) ?_
 refine Zs ?_
 refine Za ?_
 refine Zx <| DC.seq <| Zs ?_
 refine Zm ?_
 refine Zx <| DC.block <| Zs ?_
 refine Zo (C4 (v := .tuple #[.slice (some ad) ls.length cap, .bool true]) rfl rfl (fun w => by kernel_rfl)) ?_
 iterate 2 refine Ze ?_
 refine Zx ?_
 refine AI rfl ?_
 refine Zs ?_
 refine Za ?_
 refine Zx <| Zs ?_
 iterate 2 refine Zm ?_
 refine Zi Tryz.underlying153 BE ?_
 refine Zu (Ai rfl rfl BA (Aw hc)) ?_
 refine Seq.rel0 rfl rfl (Ar RT rfl rfl rfl (fun w hw => Fm (hs.keep0 hw) hi (hp.keep0 hw) hf)) ?_
 rintro _ rfl
 refine Za ?_
 refine Zx <| DC.ret <| Ae <| Aa ?_
 refine Zh ?_
 exact ⟨rfl, rfl⟩
theorem K6 {es : List Pr} {v : Value} {w : World} {i : Nat} {e : Pr} (hv : PrV w v es) (he : es[i]? = some e) (h1 : I64 e.1) (h2 : I64 e.2) (hp : Pow w) :
  Calls Tryz.prog 48 #[.iface 154 v, .int .i64 i] w (Ret w [] fun v L => L = [] ∧ v = str (lineB [e.1, e.2])) := by
 obtain ⟨A, cap, rfl, hr, hlc, hcm, hle⟩ := hv
 have hlt := (TA.1 he).1
 obtain ⟨ad, rfl, hU, hV⟩ := hr.pair he
 refine Ao (args := [_, _]) (L := []) Tryz.func48 rfl Tryz.ntmps48 rfl (Own.start _ _) ?_
 refine Zs ?_
 refine Za ?_
 refine Zx <| DC.seq <| Zs ?_
 refine Zm ?_
 refine Zx <| DC.block <| Zs ?_
 refine Zo (C4 (v := .tuple #[.slice none 0 0, .bool false]) rfl rfl (fun w => by kernel_rfl)) ?_
 iterate 2 refine Ze ?_
 refine Zx ?_
 refine AT rfl ?_
 refine Zs ?_
 refine Zo (C4 (v := .tuple #[.slice (some ad) es.length cap, .bool true]) rfl rfl (fun w => by kernel_rfl)) ?_
 iterate 2 refine Ze ?_
 refine Zx ?_
 refine AI rfl ?_
 refine Zs ?_
 refine Za ?_
 refine Zx <| DC.seq ?_
 refine AF (cl := [.q, .q, .q, .q, .v, .q, .q, .q, .q, .v, .n, .r, .q]) (A := [0, 0, 3, 7, 15, 0, 0, 96, 224, 480, 1023, 2047, 4095]) (order := [0, 1, 2, 3, 4, 5, 6, 7, 8, 9, 10, 11, 12]) [] mixed (by kernel_rfl) (fun w hw => hw.pick .nil) ?_
 iterate 2 refine Ym ?_
 refine Yo rfl (AM rfl rfl rfl Tryz.underlying154 AY (by omega) (by omega) (by first | exact AC _ _ | exact Bj _ _ _ | rfl)) ?_
 refine Yf Bb ?_
 refine Am rfl rfl rfl rfl (Ai rfl rfl AJ (Aw (by rw [Tx]; exact hU))) ?_
 iterate 2 refine Ym ?_
 refine Yo rfl (AM rfl rfl rfl Tryz.underlying154 AY (by omega) (by omega) (by first | exact AC _ _ | exact Bj _ _ _ | rfl)) ?_
 refine Yf Bk ?_
 refine Am rfl rfl rfl rfl (Ai rfl rfl AJ (Aw (by rw [B6 _ _ _ (by decide)]; exact hV))) ?_
 refine BD rfl rfl rfl rfl (AP (cs := #[_, _]) rfl rfl TT AQ B0 rfl (by decide) (by decide) rfl rfl) fun g29 => ?_
 refine In (V := [blk g29 3 #[.int .i64 e.1, .int .i64 e.2]]) rfl rfl rfl rfl (by kernel_rfl) (Ar RT rfl rfl rfl (fun w hw => Fm (ns := [e.1, e.2]) (B4 (g := g29) hw rfl rfl (by decide)) (by simp; exact ⟨h1, h2⟩) (hp.keep0 hw) (by simp))) ?_
 rintro _ rfl
 refine Yo rfl (AR rfl rfl) ?_
 refine Flow.end rfl ?_
 simp only [zq, zr]
 refine Fin.then <| DC.ret <| Ae <| Aa ?_
 refine Fin.weak (E' := [(4, _)]) ⟨rfl, trivial⟩ .nil ?_
 refine Zh ?_
 exact ⟨rfl, rfl⟩
/-- What a form of a certificate says: its letter, the most lines, whether its text may be written, its lines. -/
structure FormC (w0 : World) (T : Nat) (v : Value) (letter : List UInt8) (lim : Int) (ok : Prop) (lines : List (List UInt8)) : Prop where
 head : ∀ w L, Own w0 [] w L → Calls Tryz.prog 47 #[.iface T v] w (Ret w [] fun r L => L = [] ∧ ∃ b, r = .tuple #[str letter, .int .i64 lim, .bool b] ∧ (b = true ↔ ok))
 meth : ∃ fm, Ent Tryz.prog fm ∧ (∀ w, (method (Tryz.prog.types.size + Made.depth) T v "tangram/cert.lines").run Tryz.prog w = .ok (fm, v) w) ∧ ∀ w, Calls Tryz.prog fm #[v] w (Ret w [] fun r L => L = [] ∧ r = .int .i64 lines.length)
 line : ok → ∀ (i : Nat) l, lines[i]? = some l → ∀ w L, Own w0 [] w L → Calls Tryz.prog 48 #[.iface T v, .int .i64 i] w (Ret w [] fun r L => L = [] ∧ r = str l)
 few : lines.length ≤ 17592186044416
 one : letter.length = 1
 small : ok → ∀ l, l ∈ lines → l.length ≤ 1099511627776
def headB (letter : List UInt8) (n : Nat) : List UInt8 := (letter ++ [32]) ++ lineB [(n : Int)]
def textB (letter : List UInt8) (lines : List (List UInt8)) : List UInt8 := headB letter lines.length ++ lines.flatten
theorem Dg {letter : List UInt8} {n : Nat} (h1 : letter.length = 1) (hn : n ≤ 17592186044416) : (headB letter n).length ≤ 100 := by
 have := CS (ns := [(n : Int)]) (by simp; unfold I64; omega)
 simp [headB, h1] at this ⊢; omega
theorem CM {l : List (List UInt8)} {i : Nat} {x : List UInt8} (h : l[i]? = some x) : (l.take (i + 1)).flatten = (l.take i).flatten ++ x := by
 rw [List.take_add_one, h]; simp
theorem H0 (l : List (List UInt8)) (i : Nat) : (l.take i).flatten.length ≤ l.flatten.length := by
 conv => rhs; rw [← List.take_append_drop i l]
 rw [List.flatten_append, List.length_append]; omega
structure PrintI where
 i : Nat
 v : Value
theorem HC {c v : Value} {w : World} {T : Nat} {is : Bool} {letter : List UInt8} {lim : Int} {ok : Prop} {lines : List (List UInt8)} {cs : Array Value} (hc : c = .agg cs) (hcs : ∃ x y z, cs = #[x, y, z] ∧ x.oneCell' = true ∧ y.oneCell' = true ∧ z.oneCell' = true)
  (hfo : ∀ w, Calls Tryz.prog 46 #[c] w (Ret w [] fun r L => L = [] ∧ r = .tuple #[.iface T v, .bool is])) (hF : FormC w T v letter lim ok lines) (hp : Pow w) :
  Calls Tryz.prog 24 #[c] w (Ret w [] fun r L => L = [] ∧ ∃ s e, r = .tuple #[str s, .int .i64 e] ∧
   ((e = 0 ∧ is = true ∧ ok ∧ (textB letter lines).length ≤ 33554432 ∧ s = textB letter lines) ∨ (e = 170 ∧ ¬ (is = true ∧ ok) ∧ s = []) ∨ (e = 10 ∧ is = true ∧ ok ∧ 33554432 < (textB letter lines).length ∧ s = []))) := by
 subst hc
 obtain ⟨x, y, z, rfl, x1, y1, z1⟩ := hcs
 obtain ⟨fm, hfm, hme, hln⟩ := hF.meth
 have hfew := hF.few
 have hhl := Dg hF.one hfew
 refine Ao (args := [_]) (L := []) Tryz.func24 rfl Tryz.ntmps24 rfl (Own.start _ _) ?_
 refine Zs ?_
 refine Zw (Ba (cs := #[x, y, z]) rfl rfl (P8 x1 y1 z1)) fun g1 => ?_
 iterate 2 refine Za ?_
 refine Zx <| Zs ?_
 refine Zu (Ay (vs := [_, _, _]) rfl rfl CD BV rfl (Ak rfl)) ?_
 refine Seq.rel0 rfl rfl (Ar en46 rfl rfl rfl (fun w hw => hfo w)) ?_
 rintro _ rfl
 refine Zm ?_
 iterate 2 refine Ze ?_
 iterate 2 refine Za ?_
 refine Zx <| DC.seq <| Zs ?_
 refine Zm ?_
 refine Zo (Bd rfl rfl) ?_
 refine Zx ?_
 refine Zd (fun c2 => ?_) fun c2 => ?_
 ·refine Zs ?_
  iterate 2 refine Za ?_
  refine Zx <| DC.ret <| Aa ?_
  refine Fin.weak (E' := [(2, _), (3, _)]) ⟨rfl, rfl, trivial⟩ .nil ?_
  refine AL (.inl rfl) rfl rfl rfl ?_
  exact ⟨rfl, [], 170, rfl, .inr (.inl ⟨rfl, by simp at c2; simp [c2], rfl⟩)⟩
 refine DC.skip <| Fin.then <| Zs ?_
 refine Zm ?_
 refine Seq.rel0 rfl rfl (Ar en47 rfl rfl rfl (fun w hw => hF.head w _ hw)) ?_
 rintro _ ⟨b, rfl, hb⟩
 refine Zm ?_
 iterate 3 refine Ze ?_
 iterate 3 refine Za ?_
 refine Zx <| DC.seq <| Zs ?_
 refine Zm ?_
 refine Zo (Bd rfl rfl) ?_
 refine Zx ?_
 refine Zd (fun c5 => ?_) fun c5 => ?_
 ·refine Zs ?_
  iterate 2 refine Za ?_
  refine Zx <| DC.ret <| Aa ?_
  refine Fin.weak (E' := [(2, _), (3, _)]) ⟨rfl, rfl, trivial⟩ .nil ?_
  refine AL (.inl rfl) rfl rfl rfl ?_
  exact ⟨rfl, [], 170, rfl, .inr (.inl ⟨rfl, by simp at c5; simp [← hb, c5], rfl⟩)⟩
 refine DC.skip <| Fin.then <| Zs ?_
 refine Zw (AD rfl ze95 rfl) fun g9 => ?_
 refine Zx <| Zs ?_
 refine Zm ?_
 refine Zo (FH (a := letter) (b := [32]) rfl rfl rfl (by rw [hF.one]; decide)) ?_
 refine Zm ?_
 refine Seq.rel rfl rfl (KJ hfm rfl rfl hme (fun w hw => hln w)) ?_
 rintro _ _ ⟨rfl, rfl⟩
 refine Zw (AP (cs := #[_]) rfl rfl TT AQ B0 rfl (by decide) (by decide) rfl rfl) fun g30 => ?_
 refine Seq.rel0 rfl rfl (Ar RT rfl rfl rfl (fun w hw => Fm (ns := [(lines.length : Int)]) (B4 (g := g30) hw rfl rfl (by decide)) (by simp; unfold I64; omega) (hp.keep0 hw) (by simp))) ?_
 rintro _ rfl
 refine Zo (FH (a := letter ++ [32]) (b := lineB [(lines.length : Int)]) rfl rfl rfl (by have := hhl; simp [headB] at this ⊢; omega)) ?_
 refine Seq.gen rfl rfl (Nt rfl rfl rfl (fun w hw => Pf (hw.pick (.cons 1 rfl .nil))) (by have := hhl; simp [headB] at this ⊢; omega)) ?_
 rintro _ _ ⟨v9, rfl⟩
 refine Zx <| DC.seq <| Zs ?_
 refine Zm ?_
 refine Seq.rel rfl rfl (KJ hfm rfl rfl hme (fun w hw => hln w)) ?_
 rintro _ _ ⟨rfl, rfl⟩
 refine Zm ?_
 refine Zx <| DC.block ?_
 have hc2 : is = true := by simpa using c2
 have hc5 : ok := hb.1 (by simpa using c5)
 refine DC.loop (ι := PrintI) (fun j => j.i ≤ lines.length ∧ (headB letter lines.length ++ (lines.take j.i).flatten).length ≤ 33554432)
  (fun j => [(4, .iface T v), (9, .pointer (some ⟨g9, 0, none⟩)), (35, .int .i64 lines.length), (36, .int .i64 j.i)])
  (fun j => [bldr g9 j.v (headB letter lines.length ++ (lines.take j.i).flatten)]) (fun j => lines.length - j.i) ⟨0, v9⟩ ⟨Nat.zero_le _, by simp; omega⟩ ⟨rfl, rfl, rfl, rfl, trivial⟩ (.cons' 0 rfl (by simp [headB]) .nil) ?_
 rintro ⟨i, vi⟩ ⟨hi, hle⟩
 dsimp only at hi hle ⊢
 refine Zs ?_
 refine Zc ?_
 refine Zx <| DC.seq ?_
 refine Zd (fun c10 => ?_) fun c10 => ?_
 ·have hlt : i < lines.length := by simpa using c10
  obtain ⟨l, hl⟩ : ∃ l, lines[i]? = some l := ⟨_, Tz hlt⟩
  have hsm := hF.small hc5 l (TD hl)
  refine DC.skip <| Fin.then <| DC.seq <| DC.block <| Zs ?_
  refine Zm ?_
  refine Za ?_
  refine Zx <| Zs ?_
  iterate 2 refine Zm ?_
  refine Seq.rel0 rfl rfl (Ar en48 rfl rfl rfl (fun w hw => hF.line hc5 i l hl w _ hw)) ?_
  rintro _ rfl
  refine Seq.gen rfl rfl (Nt rfl rfl rfl (fun w hw => hw) (by omega)) ?_
  rintro _ _ ⟨v42, rfl⟩
  refine Zx <| Zs ?_
  refine Seq.rel0 rfl rfl (Ar SE rfl rfl rfl (fun w hw => Ik (hw.holds _ (TI ..)))) ?_
  rintro _ rfl
  refine Zo (Bs rfl rfl rfl) ?_
  refine Zx ?_
  refine Zd (fun c13 => ?_) fun c13 => ?_
  ·refine Zs ?_
   iterate 2 refine Za ?_
   refine Zx <| DC.ret <| Ae <| Aa <| Aa <| Ae <| Aa ?_
   refine Fin.weak (E' := [(2, _), (3, _)]) ⟨rfl, rfl, trivial⟩ .nil ?_
   refine AL (.inl rfl) rfl rfl rfl ?_
   refine ⟨rfl, [], 10, rfl, .inr (.inr ⟨rfl, hc2, hc5, ?_, rfl⟩)⟩
   have := H0 lines (i + 1)
   rw [CM hl] at this
   simp at c13
   simp [textB] at c13 this ⊢; omega
  refine DC.skip <| Fin.inBlock <| Fin.then <| DC.region ?_
  refine Zp ?_
  refine Zm ?_
  refine Seq.nil ?_
  refine Ag ⟨i + 1, v42⟩ (by dsimp only; omega) ⟨by dsimp only; omega, ?_⟩ ⟨rfl, rfl, rfl, rfl, trivial⟩ (.cons' 0 rfl (by dsimp only; rw [CM hl, List.append_assoc]) .nil)
  dsimp only
  rw [CM hl, ← List.append_assoc]
  simp only [decide_eq_false_iff_not] at c13
  omega
 refine DC.exit <| Ad <| Ad <| Ah <| Fin.then <| DC.seq <| DC.seq ?_
 have hin : i = lines.length := by simp at c10; omega
 subst hin
 rw [List.take_length] at hle ⊢
 refine DC.region ?_
 refine Seq.rel0 rfl rfl (Ar SE rfl rfl rfl (fun w hw => Ik (hw.holds _ (TI ..)))) ?_
 rintro _ rfl
 refine Zo (Bs rfl rfl rfl) ?_
 refine Zx ?_
 refine Zd (fun c16 => ?_) fun c16 => ?_
 ·refine Zs ?_
  iterate 2 refine Za ?_
  refine Zx <| DC.ret <| Aa ?_
  refine Fin.weak (E' := [(2, _), (3, _)]) ⟨rfl, rfl, trivial⟩ .nil ?_
  refine AL (.inl rfl) rfl rfl rfl ?_
  exact ⟨rfl, [], 10, rfl, .inr (.inr ⟨rfl, hc2, hc5, by simp only [decide_eq_true_eq] at c16; unfold textB; omega, rfl⟩)⟩
 refine DC.skip <| Fin.then <| Zs ?_
 refine Seq.gen rfl rfl (PC rfl rfl rfl (fun w hw => hw)) ?_
 rintro _ _ ⟨rfl, rfl⟩
 iterate 2 refine Za ?_
 refine Zx <| DC.ret ?_
 refine Fin.weak (E' := [(2, _), (3, _)]) ⟨rfl, rfl, trivial⟩ .nil ?_
 refine AL (.inl rfl) rfl rfl rfl ?_
 exact ⟨rfl, _, 0, rfl, .inl ⟨rfl, hc2, hc5, hle, rfl⟩⟩
/-! ### the certificate's text -/
def HasForm (pl : Bool) (ls : List (List Int)) (es : List Pr) : Prop := if pl then es = [] ∧ ListsOk ls else ls = [] ∧ EdgesOk es
def certB (pl : Bool) (ls : List (List Int)) (es : List Pr) : List UInt8 := if pl then textB [112] (ls.map lineB) else textB [110] (es.map fun e => lineB [e.1, e.2])
theorem ListsOk.fits {ls : List (List Int)} (h : ListsOk ls) {l : List Int} (hl : l ∈ ls) {a : Int} (ha : a ∈ l) : Fits a := by
 obtain ⟨i, hi⟩ := TF.1 hl
 obtain ⟨j, hj⟩ := TF.1 ha
 obtain ⟨b, hb⟩ : ∃ b, l[0]? = some b := ⟨_, Tz (by have := (TA.1 hj).1; omega)⟩
 exact (h.2 i l hi j a b hj hb).1
theorem Sr {ls : List (List Int)} {v : Value} {w : World} (hv : LsV w v ls) (hp : Pow w) (hs : ∀ l, l ∈ ls → l.length ≤ 33554432) : FormC w 153 v [112] 1048576 (ListsOk ls) (ls.map lineB) := by
 refine ⟨fun w' L hw => Lh ls v w' (hv.keep0 hw), ?_, ?_, ?_, rfl, ?_⟩
 ·obtain ⟨A, cap, rfl, _, _, _, hle⟩ := hv
  refine ⟨220, SH, fun w => by kernel_rfl, fun w => ?_⟩
  rw [List.length_map]
  exact JP A _ cap w
 ·intro hok i l hl w' L hw
  simp only [List.getElem?_map, Option.map_eq_some_iff] at hl
  obtain ⟨l', hl', rfl⟩ := hl
  have hm := TD hl'
  exact K4 (hv.keep0 hw) hl' (fun a ha => (hok.fits hm ha).i64) (hp.keep0 hw) (by have := hs l' hm; omega)
 ·obtain ⟨A, cap, rfl, _, _, _, hle⟩ := hv
  simpa using hle
 intro hok l hl
 simp only [List.mem_map] at hl
 obtain ⟨l', hm, rfl⟩ := hl
 have := CS (ns := l') (fun a ha => (hok.fits hm ha).i64)
 have := hs l' hm
 omega
theorem Ss {es : List Pr} {v : Value} {w : World} (hv : PrV w v es) (hp : Pow w) : FormC w 154 v [110] 4194304 (EdgesOk es) (es.map fun e => lineB [e.1, e.2]) := by
 have i64 : ∀ {e : Pr}, EdgesOk es → e ∈ es → I64 e.1 ∧ I64 e.2 := fun hok hm => by
  obtain ⟨i, hi⟩ := TF.1 hm
  have := hok.ok i _ hi
  exact ⟨this.1.i64, this.2.1.i64⟩
 refine ⟨fun w' L hw => Li es v w' (hv.keep0 hw), ?_, ?_, ?_, rfl, ?_⟩
 ·obtain ⟨A, cap, rfl, _, _, _, hle⟩ := hv
  refine ⟨221, SG, fun w => by kernel_rfl, fun w => ?_⟩
  rw [List.length_map]
  exact J8 A _ cap w
 ·intro hok i l hl w' L hw
  simp only [List.getElem?_map, Option.map_eq_some_iff] at hl
  obtain ⟨e, he, rfl⟩ := hl
  have hm := i64 hok (TD he)
  exact K6 (hv.keep0 hw) he hm.1 hm.2 (hp.keep0 hw)
 ·obtain ⟨A, cap, rfl, _, _, _, hle⟩ := hv
  simp; omega
 intro hok l hl
 simp only [List.mem_map] at hl
 obtain ⟨e, hm, rfl⟩ := hl
 have h2 := i64 hok hm
 have := CS (ns := [e.1, e.2]) (by simp; exact h2)
 simp at this; omega
/-- cert.Print. -/
theorem LP {pl : Bool} {ls : List (List Int)} {es : List Pr} {v u : Value} {w : World} (hv : LsV w v ls) (hu : PrV w u es) (hp : Pow w) (hs : ∀ l, l ∈ ls → l.length ≤ 33554432) :
  Calls Tryz.prog 24 #[.agg #[.bool pl, v, u]] w (Ret w [] fun r L => L = [] ∧ ∃ s e, r = .tuple #[str s, .int .i64 e] ∧
   ((e = 0 ∧ HasForm pl ls es ∧ (certB pl ls es).length ≤ 33554432 ∧ s = certB pl ls es) ∨ (e = 170 ∧ ¬ HasForm pl ls es ∧ s = []) ∨ (e = 10 ∧ HasForm pl ls es ∧ 33554432 < (certB pl ls es).length ∧ s = []))) := by
 obtain ⟨A, cap, ev, _⟩ := id hv
 obtain ⟨B, cap', eu, _⟩ := id hu
 have hfo := fun w => JW pl A B ls.length es.length cap cap' w
 rw [← ev, ← eu] at hfo
 have hcs : ∃ x y z, #[Value.bool pl, v, u] = #[x, y, z] ∧ x.oneCell' = true ∧ y.oneCell' = true ∧ z.oneCell' = true := ⟨_, _, _, rfl, rfl, by rw [ev]; rfl, by rw [eu]; rfl⟩
 unfold HasForm certB
 cases pl with
 | true =>
  simp only [if_true] at hfo ⊢
  have := HC rfl hcs hfo (Sr hv hp hs) hp
  simpa [List.length_eq_zero_iff, and_assoc] using this
 | false =>
  simp only [Bool.false_eq_true, if_false] at hfo ⊢
  have := HC rfl hcs hfo (Ss hu hp) hp
  simpa [List.length_eq_zero_iff, and_assoc] using this
theorem QC {w0 w w' : World} {L0 L : List Chunk} {A : Option Addr} {vs : List Value} (h : Rd w0 A vs) (hO : Own w0 [] w L0) (hw : Own w (idsOf L0) w' L) : Rd w' A vs := by
 intro j u hj
 obtain ⟨ad, rfl, hc⟩ := h j u hj
 exact ⟨ad, rfl, FO hO hc w' hw⟩
theorem Pl {w0 w w' : World} {L0 L : List Chunk} {v : Value} {ls : List (List Int)} (h : LsV w0 v ls) (hO : Own w0 [] w L0) (hw : Own w (idsOf L0) w' L) : LsV w' v ls := by
 obtain ⟨A, cap, rfl, hr, h1, h2, h3⟩ := h
 refine ⟨A, cap, rfl, fun i l hi => ?_, h1, h2, h3⟩
 obtain ⟨ad, lv, rfl, hc, B, cb, rfl, hb, h4⟩ := hr i l hi
 exact ⟨ad, _, rfl, FO hO hc w' hw, B, cb, rfl, QC hb hO hw, h4⟩
theorem Km {N : Int} {es : List Pr} {rs : List (List Int)} {va v : Value} {w0 w : World} {ga gb : Nat} (hg : PrV w0 va es) (hl : LsV w0 v rs)
  (hO : Own w0 [] w [blk gb 59 #[v], blk ga 24 #[.int .i64 N, va]]) :
  Calls Tryz.prog 113 #[.pointer (some ⟨ga, 0, none⟩), .pointer (some ⟨gb, 0, none⟩)] w
   (RetP w (idsOf [blk gb 59 #[v], blk ga 24 #[.int .i64 N, va]]) (fun _ M => RotL N es rs) (fun pv M => ∃ x e, pv = flt x e ∧ (e ≠ 0 ∧ ¬ RotL N es rs))) := by
 refine Dh (args := [_, _]) Tryz.func113 rfl Tryz.ntmps113 rfl hO.self ?_
 refine DC.region ?_
 refine Zu (Ay (vs := [_, _]) rfl rfl Bn Bg rfl (Ak rfl)) ?_
 refine Zl Q6 ?_
 refine DQ rfl rfl Tg rfl rfl rfl (Lc := []) (F := [blk gb 59 #[v], blk ga 24 #[.int .i64 N, va]]) (.refl _) (fun k hk => by simp at hk) (fun w' hw => LH (N := N) (rs := rs) (HB hg hO hw) (Pl hl hO hw)) ?_ ?_
 ·rintro _ M ⟨x, e, rfl, hbad⟩
  exact Bp ⟨x, e, rfl, hbad⟩
 rintro _ M ⟨hok, rfl⟩
 refine Seq.nil ?_
 refine Dv (.inr rfl) (Cb (.inr rfl) rfl hok)
theorem LU {N : Int} {es : List Pr} {rs : List (List Int)} {va v : Value} {w : World} (hg : PrV w va es) (hl : LsV w v rs) :
  Calls Tryz.prog 87 #[.agg #[.int .i64 N, va], v] w (Ret w [] fun r M => M = [] ∧ ∃ x e, r = .tuple #[.int .i64 x, .int .i64 e] ∧ (e = 0 ↔ RotL N es rs)) := by
 have hg0 := hg
 have hl0 := hl
 obtain ⟨A, cap, rfl, hr, hlc, hcm, hle⟩ := hg
 obtain ⟨B, capb, rfl, hrb, hlb, hcb, hleb⟩ := hl
 refine Ao (args := [_, _]) (L := []) Tryz.func87 rfl Tryz.ntmps87 rfl (Own.start _ _) ?_
 refine Zs ?_
 refine Zw (Ba rfl rfl rfl) fun g2 => ?_
 refine Zw (Ba rfl rfl rfl) fun g3 => ?_
 iterate 2 refine Za ?_
 refine Zx <| DC.seq ?_
 refine DC.own (M := [blk g3 59 #[.slice B rs.length capb], blk g2 24 #[.int .i64 N, .slice A es.length cap]]) (fun w hw => hw) ?_
 refine DC.region ?_
 refine Zo (Gh rfl rfl rfl) ?_
 refine Seq.gen rfl rfl (Bh Rr rfl rfl rfl (Lc := [blk g3 59 #[.slice B rs.length capb], blk g2 24 #[.int .i64 N, .slice A es.length cap]]) (F := []) (.refl _) (fun k hk => hk)
  (fun w' hw => FZ (cap := #[.pointer (some ⟨g2, 0, none⟩), .pointer (some ⟨g3, 0, none⟩)]) (C := fun M => RotL N es rs)
   (D := fun v e M => e ≠ 0 ∧ ¬ RotL N es rs) Th hw.self (fun w'' hw'' => Km hg0 hl0 (by simpa using Own.frame (F := []) (by simpa using hw) hw'' (fun k hk => hk))))) ?_
 rintro v12 _ ⟨M, hC, rfl⟩
 have hD : ∃ v e, v12 = .tuple #[.int .i64 v, .int .i64 e] ∧ (e = 0 ↔ RotL N es rs) := by
  rcases hC with ⟨rfl, hC⟩ | ⟨v, e, rfl, hC⟩
  ·exact ⟨0, 0, rfl, by simp [hC]⟩
  exact ⟨v, e, rfl, by simp [hC.1, hC.2]⟩
 clear hC
 obtain ⟨xv, xe, rfl, hD⟩ := hD
 iterate 2 refine Ze ?_
 iterate 2 refine Za ?_
 refine Zx <| DC.ret ?_
 refine Fin.weak (E' := [(4, _), (5, _)]) ⟨rfl, rfl, trivial⟩ .nil ?_
 refine AL (.inl rfl) rfl rfl rfl ?_
 exact ⟨rfl, xv, xe, rfl, hD⟩
/-- By half-edge, the one that follows it at its vertex. -/
def NxOk (rs : List (List Int)) (v : Nat) (f : Nat → Int) : Prop := ∀ (x : Nat) l (i : Nat) h, x < v → rs[x]? = some l → l[i]? = some h → l[(i + 1) % l.length]? = some (f h.toNat)
structure NxI where
 v : Nat
 f : Nat → Int
theorem MR {N : Int} {es : List Pr} {rs : List (List Int)} {va v : Value} {w : World} (hg : PrV w va es) (hl : LsV w v rs) :
  Calls Tryz.prog 174 #[.agg #[.int .i64 N, va], v] w (Ret w [] fun r M =>
   (RotL N es rs ∧ ∃ g f, r = .tuple #[.slice (some ⟨g, 0, none⟩) (es.length * 2) (es.length * 2), .int .i64 0] ∧ NxOk rs rs.length f ∧ M = [blk g 3 (ints (tab (es.length * 2) f)).toArray]) ∨
   (¬ RotL N es rs ∧ M = [] ∧ ∃ e, r = .tuple #[.slice none 0 0, .int .i64 e] ∧ e ≠ 0)) := by
 have hg0 := hg
 have hl0 := hl
 obtain ⟨A, cap, rfl, hr, hlc, hcm, hle⟩ := hg
 obtain ⟨B, capb, rfl, hrb, hlb, hcb, hleb⟩ := hl
 refine Ao (args := [_, _]) (L := []) Tryz.func174 rfl Tryz.ntmps174 rfl (Own.start _ _) ?_
 refine Zs ?_
 refine Zw (Ba rfl rfl rfl) fun g2 => ?_
 iterate 2 refine Za ?_
 refine Zx <| DC.seq <| Zs ?_
 refine Zu (Ay (vs := [_, _]) rfl rfl Bn Bg rfl (Ak rfl)) ?_
 refine Zm ?_
 refine Seq.rel0 rfl rfl (Ar en87 rfl rfl rfl (fun w' hw => LU (hg0.keep0 hw) (hl0.keep0 hw))) ?_
 rintro _ ⟨xv, xe, rfl, hxe⟩
 refine Zm ?_
 iterate 2 refine Ze ?_
 iterate 2 refine Za ?_
 refine Zx <| Zs ?_
 refine Zm ?_
 refine Zo (BK rfl rfl rfl) ?_
 refine Zx ?_
 refine Zd (fun c2 => ?_) fun c2 => ?_
 ·refine Zs ?_
  refine Zm ?_
  iterate 2 refine Za ?_
  refine Zx <| DC.ret <| Aa ?_
  refine Fin.weak (E' := [(4, _), (5, _)]) ⟨rfl, rfl, trivial⟩ .nil ?_
  refine AL (.inl rfl) rfl rfl rfl ?_
  have hne : xe ≠ 0 := by simpa using c2
  exact .inr ⟨fun h => hne (hxe.2 h), rfl, xe, rfl, hne⟩
 refine DC.skip <| Fin.then <| DC.seq ?_
 have hok : RotL N es rs := hxe.1 (by simpa using c2)
 obtain ⟨hV, hN, hrow⟩ := id hok
 have hfew := hV.few
 refine DC.region ?_
 refine Zf Be ?_
 refine Zl Bu ?_
 refine Zn TU ?_
 refine Zo (Cl rfl rfl rfl (by omega)) ?_
 refine Zw (Ca (k := es.length * 2) rfl rfl rfl TT AQ DE B0 (by omega) (by omega) (by omega) (Ch _)) fun g26 => ?_
 refine Za ?_
 refine Zx <| DC.seq <| Zs ?_
 refine Zm ?_
 refine Zn TY ?_
 refine Zm ?_
 refine Zx <| DC.block ?_
 refine DC.loop (ι := NxI) (fun j => j.v ≤ rs.length ∧ NxOk rs j.v j.f)
  (fun j => [(8, .slice (some ⟨g26, 0, none⟩) (es.length * 2) (es.length * 2)), (27, .slice B rs.length capb), (28, .int .i64 rs.length), (29, .int .i64 j.v)])
  (fun j => [blk g26 3 (ints (tab (es.length * 2) j.f)).toArray]) (fun j => rs.length - j.v) ⟨0, fun _ => 0⟩ ⟨Nat.zero_le _, fun _ _ _ _ h => absurd h (TS _)⟩ ⟨rfl, rfl, rfl, rfl, trivial⟩ (.cons 0 rfl .nil) ?_
 rintro ⟨v, f⟩ ⟨hv, hd⟩
 dsimp only at hv hd ⊢
 refine Zs ?_
 refine Zc ?_
 refine Zx <| DC.seq ?_
 refine Zd (fun c6 => ?_) fun c6 => ?_
 ·have hvlt : v < rs.length := by simpa using c6
  obtain ⟨l, hl⟩ : ∃ l, rs[v]? = some l := ⟨_, Tz hvlt⟩
  obtain ⟨adb, lv, rfl, hc, Al, capl, rfl, hrl, hl1, hl2, hl3⟩ := hrb v l hl
  obtain ⟨hfr, hnd, _⟩ := hrow v l hl
  refine DC.skip <| Fin.then <| DC.seq <| DC.block <| Zs ?_
  refine Zi TY BE ?_
  refine Zu (Ai rfl rfl BA (Aw hc)) ?_
  refine Za ?_
  refine Zx <| Zs ?_
  refine Zm ?_
  refine Zn TT ?_
  refine Zm ?_
  refine Zx <| DC.block ?_
  refine DC.loop (ι := NxI) (fun j => j.v ≤ l.length ∧ NxOk rs v j.f ∧ ∀ (i : Nat) h, i < j.v → l[i]? = some h → l[(i + 1) % l.length]? = some (j.f h.toNat))
   (fun j => [(8, .slice (some ⟨g26, 0, none⟩) (es.length * 2) (es.length * 2)), (10, .slice Al l.length capl), (27, .slice (some adb) rs.length capb), (28, .int .i64 rs.length), (29, .int .i64 v), (33, .slice Al l.length capl), (34, .int .i64 l.length), (35, .int .i64 j.v)])
   (fun j => [blk g26 3 (ints (tab (es.length * 2) j.f)).toArray]) (fun j => l.length - j.v) ⟨0, f⟩ ⟨Nat.zero_le _, hd, fun _ _ h => absurd h (TS _)⟩ ⟨rfl, rfl, rfl, rfl, rfl, rfl, rfl, rfl, trivial⟩ (.cons 0 rfl .nil) ?_
  rintro ⟨k, f2⟩ ⟨hk, hd2, hin⟩
  dsimp only at hk hd2 hin ⊢
  refine Zs ?_
  refine Zc ?_
  refine Zx <| DC.seq ?_
  refine Zd (fun c9 => ?_) fun c9 => ?_
  ·have hklt : k < l.length := by simpa using c9
   obtain ⟨h, hh⟩ : ∃ h, l[k]? = some h := ⟨_, Tz hklt⟩
   obtain ⟨hh0, hh1, hh2⟩ := hfr h (TD hh)
   obtain ⟨adl, rfl, hch⟩ := hrl.int hh
   have hml : (k + 1) % l.length < l.length := Nat.mod_lt _ (by omega)
   obtain ⟨h', hh'⟩ : ∃ h', l[(k + 1) % l.length]? = some h' := ⟨_, Tz hml⟩
   obtain ⟨adl', e, hch'⟩ := hrl.int hh'
   cases e
   have emod : ((k : Int) + 1) % (l.length : Int) = (((k + 1) % l.length : Nat) : Int) := by rw [Int.natCast_emod, Int.natCast_add]; rfl
   refine DC.skip <| Fin.then <| DC.seq <| DC.block <| Zs ?_
   refine Zm ?_
   refine Zi TT AQ ?_
   refine Zu (Ai rfl rfl AJ (Aw hch)) ?_
   iterate 2 refine Za ?_
   refine Zx <| DC.region ?_
   iterate 4 refine Zm ?_
   refine Zp ?_
   refine Zm ?_
   refine Zn TT ?_
   refine Zo (IW (j := (l.length : Int)) rfl rfl rfl (by omega) (by omega)) ?_
   rw [emod]
   refine Zi TT AQ ?_
   refine Zu (Ai rfl rfl AJ (Aw hch')) ?_
   refine Zi TT AQ ?_
   refine Zy (AE (cs' := (ints (tab (es.length * 2) (upd f2 h.toNat h'))).toArray) rfl rfl rfl AQ rfl (by simp; omega) BR) ?_
   refine Seq.nil <| Fin.inBlock <| Fin.then <| DC.region ?_
   refine Zp ?_
   refine Zm ?_
   refine Seq.nil ?_
   refine Ag (NxI.mk (k + 1) (upd f2 h.toNat h')) (by dsimp only; omega) ⟨by dsimp only; omega, ?_, ?_⟩ ⟨rfl, rfl, rfl, rfl, rfl, rfl, rfl, rfl, trivial⟩ (.cons 0 rfl .nil)
   ·intro x l' i h2 hx hl' hi2
    dsimp only
    unfold upd
    rw [if_neg ?_]
    ·exact hd2 x l' i h2 hx hl' hi2
    intro e
    obtain ⟨h4, h5, h6⟩ := (hrow x l' hl').1 h2 (TD hi2)
    have : h2 = h := by omega
    subst this
    omega
   intro i h2 hi2 hl2
   dsimp only at hi2 ⊢
   unfold upd
   split
   ·rename_i e
    have h4 := (hfr h2 (TD hl2)).1
    have : h2 = h := by omega
    subst this
    have : i = k := (List.getElem?_inj (by have := (TA.1 hl2).1; exact this) hnd).1 (hl2.trans hh.symm)
    subst this; exact hh'
   rename_i e
   rcases TE.1 hi2 with hi2 | rfl
   ·exact hin i h2 hi2 hl2
   rw [hh] at hl2; cases hl2; exact absurd rfl e
  refine DC.exit <| Ad <| Ad <| Ah <| Fin.inBlock <| Fin.then <| DC.region ?_
  refine Zp ?_
  refine Zm ?_
  refine Seq.nil ?_
  have hkl : k = l.length := by simp at c9; omega
  subst hkl
  refine Ag (NxI.mk (v + 1) f2) (by dsimp only; omega) ⟨by dsimp only; omega, ?_⟩ ⟨rfl, rfl, rfl, rfl, trivial⟩ (.cons 0 rfl .nil)
  intro x l' i h2 hx hl' hi2
  dsimp only at hx ⊢
  rcases TE.1 hx with hx | rfl
  ·exact hd2 x l' i h2 hx hl' hi2
  rw [hl] at hl'; cases hl'
  exact hin i h2 (TA.1 hi2).1 hi2
 refine DC.exit <| Ad <| Ad <| Ah <| Fin.then <| Zs ?_
 refine Zm ?_
 iterate 2 refine Za ?_
 refine Zx <| DC.ret ?_
 refine AL (.inl rfl) rfl rfl rfl ?_
 have hvl : v = rs.length := by simp at c6; omega
 subst hvl
 exact .inl ⟨hok, g26, f, rfl, hd, rfl⟩
/-- A certificate that has a text. -/
def TextOk (pl : Bool) (ls : List (List Int)) (cs : List Pr) : Prop := HasForm pl ls cs ∧ (certB pl ls cs).length ≤ 33554432
theorem KW {pl : Bool} {N : Int} {ls : List (List Int)} {cs : List Pr} {va v u : Value} {w : World} (hv : LsV w v ls) (hu : PrV w u cs) (hp : Pow w) (hs : ∀ l, l ∈ ls → l.length ≤ 33554432) :
  Calls Tryz.prog 55 #[.agg #[.int .i64 N, va], .agg #[.bool pl, v, u]] w (Ret w [] fun r L => L = [] ∧ ∃ b, r = .bool b ∧ (b = true ↔ TextOk pl ls cs)) := by
 refine Ao (args := [_, _]) (L := []) Tryz.func55 rfl Tryz.ntmps55 rfl (Own.start _ _) ?_
 refine Zs ?_
 refine Zw (Ba rfl rfl rfl) fun g2 => ?_
 refine Zw (Ba rfl rfl rfl) fun g3 => ?_
 refine Za ?_
 refine Zx <| Zs ?_
 refine Zu (Ay (vs := [_, _, _]) rfl rfl CD BV rfl (Ak rfl)) ?_
 refine Seq.rel0 rfl rfl (Ar en24 rfl rfl rfl (fun w' hw => LP (hv.keep0 hw) (hu.keep0 hw) (hp.keep0 hw) hs)) ?_
 rintro _ ⟨s, e, rfl, hse⟩
 refine Zm ?_
 iterate 2 refine Ze ?_
 iterate 2 refine Za ?_
 refine Zx <| Zs ?_
 refine Zm ?_
 refine Zo (AN rfl rfl rfl) ?_
 refine Za ?_
 refine Zx <| DC.ret ?_
 refine Fin.weak (E' := [(4, _)]) ⟨rfl, trivial⟩ .nil ?_
 refine Zh ?_
 refine ⟨rfl, _, rfl, ?_⟩
 unfold TextOk
 rcases hse with ⟨rfl, h1, h2, _⟩ | ⟨rfl, h1, _⟩ | ⟨rfl, h1, h2, _⟩
 ·simp [h1, h2]
 ·simp [h1]
 simp [h1]; omega
theorem Ku {pl : Bool} {N : Int} {es : List Pr} {ls : List (List Int)} {va v u : Value} {w : World} (hg : PrV w va es) (hv : LsV w v ls) :
  Calls Tryz.prog 56 #[.agg #[.int .i64 N, va], .agg #[.bool pl, v, u]] w (Ret w [] fun r L => L = [] ∧ ∃ b, r = .bool b ∧ (b = true ↔ RotOk N es ls)) := by
 refine Ao (args := [_, _]) (L := []) Tryz.func56 rfl Tryz.ntmps56 rfl (Own.start _ _) ?_
 refine Zs ?_
 refine Zw (Ba rfl rfl rfl) fun g2 => ?_
 refine Zw (Ba rfl rfl rfl) fun g3 => ?_
 refine Za ?_
 refine Zx <| Zs ?_
 refine Zu (Ay (vs := [_, _]) rfl rfl Bn Bg rfl (Ak rfl)) ?_
 refine Zf CT ?_
 refine Zl Ek ?_
 refine Seq.rel rfl rfl (Ar Sx rfl rfl rfl (fun w' hw => GK (hg.keep0 hw) (hv.keep0 hw))) ?_
 intro v12 L12 hC12
 obtain ⟨x0, x1, e, rfl, he⟩ : ∃ x0 x1 e, v12 = .tuple #[x0, x1, .int .i64 e] ∧ (e = 0 ↔ RotOk N es ls) := by
  rcases hC12 with ⟨hok, g, rs, rfl, _⟩ | ⟨hno, _, x, e, rfl, hne⟩
  ·exact ⟨_, _, _, rfl, by simp [hok]⟩
  exact ⟨_, _, _, rfl, by simp [hno, hne]⟩
 clear hC12
 refine Zm ?_
 iterate 3 refine Ze ?_
 iterate 3 refine Za ?_
 refine Zx <| Zs ?_
 refine Zm ?_
 refine Zo (AN rfl rfl rfl) ?_
 refine Za ?_
 refine Zx <| DC.ret ?_
 refine Fin.weak (E' := [(4, _)]) ⟨rfl, trivial⟩ .nil ?_
 refine Zh ?_
 exact ⟨rfl, _, rfl, by simpa using he⟩
/-- The numbers of a certificate's edges in a graph. -/
def NumR (es cs : List Pr) (ns : List Int) : Prop := ns.length = cs.length ∧ ∀ (j : Nat) c m, cs[j]? = some c → ns[j]? = some m → (m = -1 ∧ c ∉ es) ∨ ∃ i : Nat, m = i ∧ es[i]? = some c
def NumM (es : List Pr) (i : Nat) (f : Pr → Option Value) : Prop := ∀ p, (f p = none ∧ p ∉ es.take i) ∨ ∃ k : Nat, k < i ∧ es[k]? = some p ∧ f p = some (.int .i64 ((k : Int) + 1))
structure NumbI where
 i : Nat
 m : List (Pr × Value)
structure NumbJ where
 i : Nat
 ns : List Int
theorem EG {pl : Bool} {N : Int} {es cs : List Pr} {va v u : Value} {w : World} (hg : PrV w va es) (hu : PrV w u cs) :
  Calls Tryz.prog 96 #[.agg #[.int .i64 N, va], .agg #[.bool pl, v, u]] w (Ret w [] fun r M => ∃ g ns, r = .slice (some ⟨g, 0, none⟩) cs.length cs.length ∧ NumR es cs ns ∧ M = [blk g 3 (ints ns).toArray]) := by
 obtain ⟨A, cap, rfl, hr, hlc, hcm, hle⟩ := hg
 obtain ⟨B, capb, rfl, hrb, hlb, hcb, hleb⟩ := hu
 refine Ao (args := [_, _]) (L := []) Tryz.func96 rfl Tryz.ntmps96 rfl (Own.start _ _) ?_
 refine Zs ?_
 refine Zw (Ba rfl rfl rfl) fun g2 => ?_
 refine Zw (Ba rfl rfl rfl) fun g3 => ?_
 refine Za ?_
 refine Zx <| Zs ?_
 refine Seq.rel rfl rfl (De (enc := encP) rfl) ?_
 rintro _ _ ⟨gm, rfl, rfl⟩
 simp only [zs]
 refine Za ?_
 refine Zx <| DC.seq <| Zs ?_
 refine Zf Be ?_
 refine Zl Bu ?_
 refine Zn TU ?_
 refine Zm ?_
 refine Zx <| DC.block ?_
 refine DC.loop (ι := NumbI) (fun j => j.i ≤ es.length ∧ NumM es j.i (lkM j.m))
  (fun j => [(3, .pointer (some ⟨g3, 0, none⟩)), (5, .map (some gm)), (13, .slice A es.length cap), (14, .int .i64 es.length), (15, .int .i64 j.i)])
  (fun j => [mpc encP gm j.m, blk g3 27 #[.bool pl, v, .slice B cs.length capb]]) (fun j => es.length - j.i) ⟨0, []⟩ ⟨Nat.zero_le _, fun p => .inl ⟨rfl, by simp⟩⟩ ⟨rfl, rfl, rfl, rfl, rfl, trivial⟩ (.cons 0 rfl (.cons 0 rfl .nil)) ?_
 rintro ⟨i, m⟩ ⟨hi, hm⟩
 dsimp only at hi hm ⊢
 refine Zs ?_
 refine Zc ?_
 refine Zx <| DC.seq ?_
 refine Zd (fun c3 => ?_) fun c3 => ?_
 ·have hlt : i < es.length := by simpa using c3
  obtain ⟨e, he⟩ : ∃ e, es[i]? = some e := ⟨_, Tz hlt⟩
  obtain ⟨ad, rfl, hU, hVe⟩ := hr.pair he
  refine DC.skip <| Fin.then <| DC.seq <| DC.block <| Zs ?_
  refine Zm ?_
  refine Zo (AM rfl rfl rfl TU AY (by omega) (by omega) (by first | exact AC _ _ | exact Bj _ _ _ | rfl)) ?_
  refine Zu (Ay (vs := [_, _]) rfl rfl B3 AY rfl (Cv hU hVe (by simp))) ?_
  refine Zw (AD rfl CE rfl) fun g7 => ?_
  refine Za ?_
  refine Zy (At (cs' := #[_, _]) rfl rfl rfl AY rfl (TB rfl) rfl) ?_
  refine Zx <| DC.region ?_
  refine Zm ?_
  refine Zu (Ay (vs := [_, _]) rfl rfl B3 AY rfl (Ak rfl)) ?_
  refine Zm ?_
  refine Zp ?_
  refine Zy (BX (k := e) 1 rfl G5 rfl rfl rfl rfl Tryz.underlying196 rfl) ?_
  refine Seq.nil <| Fin.inBlock <| Fin.then <| DC.region ?_
  refine Zp ?_
  refine Zm ?_
  refine Seq.nil ?_
  refine Ag ⟨i + 1, putM e (.int .i64 ((i : Int) + 1)) m⟩ (by dsimp only; omega) ⟨by dsimp only; omega, ?_⟩ ⟨rfl, rfl, rfl, rfl, rfl, trivial⟩ (.cons 1 rfl (.cons 1 rfl .nil))
  intro p
  dsimp only
  rw [D4]
  by_cases hp : p = e
  ·subst hp
   rw [if_pos rfl]
   exact .inr ⟨i, by omega, he, rfl⟩
  rw [if_neg hp]
  rcases hm p with ⟨h1, h2⟩ | ⟨k, h1, h2, h3⟩
  ·refine .inl ⟨h1, ?_⟩
   rw [List.take_add_one, he, List.mem_append]
   simp [h2, hp]
  exact .inr ⟨k, by omega, h2, h3⟩
 refine DC.exit <| Ad <| Ad <| Ah <| Fin.then <| DC.seq ?_
 have hie : i = es.length := by simp at c3; omega
 subst hie
 refine DC.region ?_
 refine Zf Cr ?_
 refine Zl Bu ?_
 refine Zn TU ?_
 refine Zw (Ca (k := cs.length) (cs := (ints (List.replicate cs.length 0)).toArray) rfl rfl rfl TT AQ DE B0 rfl (by omega) (by omega) (I5 _)) fun g28 => ?_
 refine Za ?_
 refine Zx <| DC.seq <| Zs ?_
 refine Zf Cr ?_
 refine Zl Bu ?_
 refine Zn TU ?_
 refine Zm ?_
 refine Zx <| DC.block ?_
 refine DC.loop (ι := NumbJ) (fun j => j.i ≤ cs.length ∧ j.ns.length = cs.length ∧ ∀ (q : Nat) c x, q < j.i → cs[q]? = some c → j.ns[q]? = some x → (x = -1 ∧ c ∉ es) ∨ ∃ i : Nat, x = i ∧ es[i]? = some c)
  (fun j => [(5, .map (some gm)), (8, .slice (some ⟨g28, 0, none⟩) cs.length cs.length), (30, .slice B cs.length capb), (31, .int .i64 cs.length), (32, .int .i64 j.i)])
  (fun j => [mpc encP gm m, blk g28 3 (ints j.ns).toArray]) (fun j => cs.length - j.i) ⟨0, List.replicate cs.length 0⟩ ⟨Nat.zero_le _, by simp, fun _ _ _ h => absurd h (TS _)⟩ ⟨rfl, rfl, rfl, rfl, rfl, trivial⟩ (.cons 1 rfl (.cons 0 rfl .nil)) ?_
 rintro ⟨i, ns⟩ ⟨hi2, hns, hn⟩
 dsimp only at hi2 hns hn ⊢
 refine Zs ?_
 refine Zc ?_
 refine Zx <| DC.seq ?_
 refine Zd (fun c9 => ?_) fun c9 => ?_
 ·have hlt : i < cs.length := by simpa using c9
  obtain ⟨c, hc⟩ : ∃ c, cs[i]? = some c := ⟨_, Tz hlt⟩
  obtain ⟨adb, rfl, hU, hVe⟩ := hrb.pair hc
  refine DC.skip <| Fin.then <| DC.seq <| DC.block <| Zs ?_
  refine Zm ?_
  refine Zo (AM rfl rfl rfl TU AY (by omega) (by omega) (by first | exact AC _ _ | exact Bj _ _ _ | rfl)) ?_
  refine Zu (Ay (vs := [_, _]) rfl rfl B3 AY rfl (Cv hU hVe (by simp))) ?_
  refine Zw (AD rfl CE rfl) fun g10 => ?_
  refine Za ?_
  refine Zy (At (cs' := #[_, _]) rfl rfl rfl AY rfl (TB rfl) rfl) ?_
  refine Zx <| DC.region ?_
  iterate 3 refine Zm ?_
  refine Zu (Ay (vs := [_, _]) rfl rfl B3 AY rfl (Ak rfl)) ?_
  obtain ⟨x, hx, hx0, hx1, hxr⟩ : ∃ x : Int, (if false then (.tuple #[(lkM m c).getD (.int .i64 0), .bool (lkM m c).isSome] : Value) else (lkM m c).getD (.int .i64 0)) = .int .i64 x ∧ 0 ≤ x ∧ x ≤ es.length ∧ ((x - 1 = -1 ∧ c ∉ es) ∨ ∃ i : Nat, x - 1 = i ∧ es[i]? = some c) := by
   rcases hm c with ⟨h1, h2⟩ | ⟨k, h1, h2, h3⟩
   ·exact ⟨0, by rw [h1]; rfl, by omega, by omega, .inl ⟨rfl, by simpa using h2⟩⟩
   exact ⟨(k : Int) + 1, by rw [h3]; rfl, by omega, by omega, .inr ⟨k, by omega, h2⟩⟩
  refine Zu (C3 (k := c) 1 rfl G5 rfl rfl rfl Tryz.underlying196 B0 hx) ?_
  refine Zo (Bv rfl rfl rfl (by omega)) ?_
  refine Zi TT AQ ?_
  refine Zy (AE (cs' := (ints (ns.set i (x - 1))).toArray) rfl rfl rfl AQ rfl (by simp; omega) EA) ?_
  refine Seq.nil <| Fin.inBlock <| Fin.then <| DC.region ?_
  refine Zp ?_
  refine Zm ?_
  refine Seq.nil ?_
  refine Ag ⟨i + 1, ns.set i (x - 1)⟩ (by dsimp only; omega) ⟨by dsimp only; omega, by simp [hns], ?_⟩ ⟨rfl, rfl, rfl, rfl, rfl, trivial⟩ (.cons 1 rfl (.cons 1 rfl .nil))
  intro q c' x' hq hc' hx'
  dsimp only at hq hx'
  rw [List.getElem?_set] at hx'
  split at hx'
  ·rename_i e; subst e
   rw [if_pos (by omega)] at hx'; cases hx'
   rw [hc] at hc'; cases hc'
   exact hxr
  exact hn q c' x' (by omega) hc' hx'
 refine DC.exit <| Ad <| Ad <| Ah <| Fin.then <| Zs ?_
 refine Zm ?_
 refine Za ?_
 refine Zx <| DC.ret ?_
 have hie : i = cs.length := by simp at c9; omega
 subst hie
 refine Fin.weak (E' := [(4, _)]) ⟨rfl, trivial⟩ (.cons 1 rfl .nil) ?_
 refine Zh ?_
 exact ⟨g28, ns, rfl, ⟨hns, fun j c x hj hx => hn j c x (TA.1 hj).1 hj hx⟩, rfl⟩
theorem H1 {x : Int} (h : Fits x) : ∃ a : Nat, x = a ∧ a ≤ 1000000000 := by
 obtain ⟨a, ha⟩ := TJ h.1
 exact ⟨a, ha, by have := h.2; omega⟩
structure PtI where
 i : Nat
 v : Value
def preL (ls : List (List Int)) (i : Nat) : List UInt8 := headB [112] ls.length ++ ((ls.map lineB).take i).flatten
theorem NV {ls : List (List Int)} {i : Nat} {l : List Int} (h : ls[i]? = some l) : preL ls (i + 1) = preL ls i ++ (Lib.join (l.map Lib.itoa) [32] ++ [10]) := by
 unfold preL
 rw [CM (l := ls.map lineB) (x := lineB l) (by rw [List.getElem?_map, h]; rfl), ← List.append_assoc]; rfl
theorem Nr (c : UInt8) (n : Nat) : headB [c] n = [c, 32] ++ Lib.itoa (n : Int) ++ [10] := by
 unfold headB lineB
 simp [Lib.join, List.intercalate]
theorem Oj {l : List Int} {k : Nat} {x : Int} (h : l[k]? = some x) : Lib.join ((l.take (k + 1)).map Lib.itoa) [32] = if k = 0 then Lib.itoa x else Lib.join ((l.take k).map Lib.itoa) [32] ++ [32] ++ Lib.itoa x := by
 have hl := (TA.1 h).1
 rw [List.take_add_one, h]
 simp only [Option.toList_some, List.map_append, List.map_cons, List.map_nil]
 rw [I7]
 by_cases h0 : k = 0
 ·subst h0; simp
 have : (l.take k).map Lib.itoa ≠ [] := fun e => by
  have := congrArg List.length e
  rw [List.length_map, List.length_take, List.length_nil] at this; omega
 rw [if_neg this, if_neg h0]
theorem GN {ls : List (List Int)} {cs : List Pr} {v u : Value} {w : World} (hv : LsV w v ls) (hu : PrV w u cs) (hs : ∀ l, l ∈ ls → l.length ≤ 33554432) (hsm : ListsOk ls → (ls.map lineB).flatten.length ≤ 1048576 * 44040193) :
  Calls Tryz.prog 31 #[.agg #[.bool true, v, u]] w (Ret w [] fun r L => L = [] ∧ ∃ s e, r = .tuple #[str s, .int .i64 e] ∧ (e = 0 ↔ TextOk true ls cs)) := by
 have hv0 := hv
 have hu0 := hu
 obtain ⟨Al, cl, rfl, hr, hlc, hcm, hle⟩ := hv
 obtain ⟨Ac, cc, rfl, hrc, hlcc, hcmc, hlec⟩ := hu
 refine Ao (args := [_]) (L := []) Tryz.func31 rfl Tryz.ntmps31 rfl (Own.start _ _) ?_
 refine Zs ?_
 refine Zw (Ba rfl rfl rfl) fun g1 => ?_
 iterate 2 refine Za ?_
 refine Zx <| DC.seq <| Zs ?_
 refine Zf CU ?_
 refine Zl II ?_
 refine Zm ?_
 refine Seq.split 10 rfl (fun k1_2 => ?_) (fun k1_2 => ?_)
 ·refine Zf Cr ?_
  refine Zl Bu ?_
  refine Zn TU ?_
  refine Zo (Bs rfl rfl rfl) ?_
  refine Zm ?_
  refine Seq.split 15 rfl (fun k1_7 => ?_) (fun k1_7 => ?_)
  ·refine Zk ?_
   iterate 3 refine Zk ?_
   iterate 2 refine Zt ?_
   refine Zm ?_
   iterate 15 refine Zk ?_
   refine Zt ?_
   refine Zx ?_
   refine AI rfl ?_
   refine Zs ?_
   iterate 2 refine Za ?_
   refine Zx <| DC.ret <| Aa ?_
   refine Fin.weak (E' := [(2, str []), (3, .int .i64 170)]) ⟨rfl, rfl, trivial⟩ .nil ?_
   refine AL (.inl rfl) rfl rfl rfl ?_
   refine ⟨rfl, [], 170, rfl, ?_⟩
   simp only [show ¬ ((170 : Int) = 0) by decide, false_iff]
   rintro ⟨⟨h1, _⟩, _⟩
   rw [h1] at k1_7
   simp at k1_7
  refine Zf CT ?_
  refine Zl Ek ?_
  refine Seq.rel0 rfl rfl (Ar en60 rfl rfl rfl (fun w' hw => Hq (hv0.keep0 hw))) ?_
  rintro _ ⟨b1, rfl, hb1⟩
  refine Zo (Bd rfl rfl) ?_
  refine Zg ?_
  refine Zt ?_
  refine Zm ?_
  refine Seq.split 22 rfl (fun k1_14 => ?_) (fun k1_14 => ?_)
  ·refine Zk ?_
   iterate 14 refine Zk ?_
   refine Zt ?_
   refine Zx ?_
   refine AI rfl ?_
   refine Zs ?_
   iterate 2 refine Za ?_
   refine Zx <| DC.ret <| Aa ?_
   refine Fin.weak (E' := [(2, str []), (3, .int .i64 170)]) ⟨rfl, rfl, trivial⟩ .nil ?_
   refine AL (.inl rfl) rfl rfl rfl ?_
   refine ⟨rfl, [], 170, rfl, ?_⟩
   simp only [show ¬ ((170 : Int) = 0) by decide, false_iff]
   rintro ⟨⟨_, h1⟩, _⟩
   rw [hb1.2 h1] at k1_14
   simp at k1_14
  refine Zf CU ?_
  refine Zl II ?_
  refine Zo (Bd rfl rfl) ?_
  refine Zm ?_
  refine Seq.split 26 rfl (fun k1_18 => ?_) (fun k1_18 => ?_)
  ·cases k1_18
  iterate 10 refine Zk ?_
  iterate 2 refine Zg ?_
  refine Zx ?_
  refine AT rfl ?_
  refine DC.skip <| Fin.then <| DC.seq ?_
  have hcs : cs = [] := by simp at k1_7; exact k1_7
  have hok : ListsOk ls := hb1.1 (by simpa using k1_14)
  have hmany := hok.1
  have hline : ∀ x, x ∈ ls.map lineB → x.length ≤ 704643093 := fun x hx => by
   obtain ⟨l, hl, rfl⟩ := List.mem_map.1 hx
   have h1 := CS (ns := l) (fun a ha => by have := hok.fits hl ha; unfold I64; unfold Fits at this; omega)
   have := hs l hl
   omega
  have hpre : ∀ i, (preL ls i).length ≤ 50000000000000 := fun i => by
   have h1 := H0 (ls.map lineB) i
   have h2 := hsm hok
   have h3 := Dg (letter := [112]) (n := ls.length) rfl (by omega)
   unfold preL
   rw [List.length_append]; omega
  refine DC.region ?_
  refine Za ?_
  refine Zx ?_
  refine DC.cut (ι := Value) (fun _ => True) (fun v => [(4, v)]) (fun v => [slc v 5 1 (byc (certB true ls cs))]) ?first23 ?rest23
  case first23 =>
   refine Zs ?_
   refine Zf CU ?_
   refine Zl II ?_
   refine Zx ?_
   refine Zd (fun c4 => ?_) fun c4 => ?_
   ·refine Zs ?_
    refine Zm ?_
    refine Zw (AP (cs := #[_, _]) rfl rfl TV Dw Et rfl (by decide) (by decide) rfl rfl) fun g42 => ?_
    refine Seq.gen rfl rfl (AK rfl rfl rfl TV Dw Kf Et rfl (by decide) (by decide) (news := byc [112, 32]) (k := 2) (fun w hw => AX (t := 5) (m := 1) (hw.sub (L' := [blk g1 27 #[.bool true, .slice Al ls.length cl, .slice Ac cs.length cc]]) (TG ..))) (.inl ⟨_, _, rfl, Ak rfl⟩) rfl (DD _) (by simp)) ?_
    rintro v43 _ rfl
    refine Za ?_
    refine Zx <| Zs ?_
    refine Zm ?_
    refine Zf CT ?_
    refine Zl Ek ?_
    refine Zn TW ?_
    refine Seq.rel0 rfl rfl (Ar PQ rfl rfl rfl (fun w' hw => CH (a := ls.length) (by omega))) ?_
    rintro _ rfl
    refine Seq.gen rfl rfl (CK rfl rfl rfl TV Tryz.underlying9 Dw Kf Et (fun w hw => hw) (by have := Cu (a := (ls.length : Int)) (by omega); simp; omega)) ?_
    rintro v49 _ rfl
    refine Za ?_
    refine Zx <| Zs ?_
    refine Zm ?_
    refine Zw (AP (cs := #[_]) rfl rfl TV Dw Et rfl (by decide) (by decide) rfl rfl) fun g51 => ?_
    refine Seq.gen rfl rfl (AK rfl rfl rfl TV Dw Kf Et rfl (by decide) (by decide) (F := [blk g1 27 #[.bool true, .slice Al ls.length cl, .slice Ac cs.length cc]]) (news := byc [10]) (k := 1) (fun w hw => hw.pick (.cons 1 rfl (.cons 1 rfl .nil))) (.inl ⟨_, _, rfl, Ak rfl⟩) rfl (DD _) (by have := Cu (a := (ls.length : Int)) (by omega); simp; omega)) ?_
    rintro v52 _ rfl
    refine Za ?_
    refine Zx <| Zs ?_
    refine Za ?_
    refine Zx <| DC.block ?_
    refine DC.loop (ι := PtI) (fun j => j.i ≤ ls.length) (fun j => [(1, .pointer (some ⟨g1, 0, none⟩)), (4, j.v), (5, .int .i64 j.i)])
     (fun j => [slc j.v 5 1 (byc (preL ls j.i)), blk g1 27 #[.bool true, .slice Al ls.length cl, .slice Ac cs.length cc]]) (fun j => ls.length - j.i) ⟨0, v52⟩ (Nat.zero_le _) ⟨rfl, rfl, rfl, trivial⟩ (.cons' 0 rfl (by dsimp only; unfold preL; rw [Nr]; simp [byc, Lib.byteCells]) (.cons 0 rfl .nil)) ?_
    rintro ⟨i, v4⟩ hi
    dsimp only at hi ⊢
    refine DC.seq <| Zs ?_
    refine Zm ?_
    refine Zf CT ?_
    refine Zl Ek ?_
    refine Zn TW ?_
    refine Zc ?_
    refine Zx ?_
    refine Zd (fun c9 => ?_) fun c9 => ?_
    ·have hlt : i < ls.length := by simpa using c9
     obtain ⟨l, hl⟩ : ∃ l, ls[i]? = some l := ⟨_, Tz hlt⟩
     have hlm := TD hl
     obtain ⟨ad, lv, rfl, hc, Ax, capl, rfl, hrl, hl1, hl2, hl3⟩ := hr i l hl
     have hsl := hs l hlm
     refine DC.skip <| Fin.then <| DC.seq <| DC.block <| DC.seq <| Zs ?_
     refine Za ?_
     refine Zx <| DC.block ?_
     refine DC.loop (ι := PtI) (fun j => j.i ≤ l.length) (fun j => [(1, .pointer (some ⟨g1, 0, none⟩)), (4, j.v), (5, .int .i64 i), (6, .int .i64 j.i)])
      (fun j => [slc j.v 5 1 (byc (preL ls i ++ Lib.join ((l.take j.i).map Lib.itoa) [32])), blk g1 27 #[.bool true, .slice (some ad) ls.length cl, .slice Ac cs.length cc]]) (fun j => l.length - j.i) ⟨0, v4⟩ (Nat.zero_le _) ⟨rfl, rfl, rfl, rfl, trivial⟩
      (.cons' 0 rfl (by dsimp only; rw [List.take_zero, List.map_nil, Px, List.append_nil]) (.cons 0 rfl .nil)) ?_
     rintro ⟨k, v6⟩ hk
     dsimp only at hk ⊢
     have hjl : (Lib.join ((l.take k).map Lib.itoa) [32]).length ≤ 704643093 := by
      have := FM (k := 20) ((l.take k).map Lib.itoa) (fun x hx => by
       obtain ⟨a, ha, rfl⟩ := List.mem_map.1 hx
       refine Cu ?_
       have := hok.fits hlm (List.mem_of_mem_take ha)
       unfold Fits at this; omega)
      rw [List.length_map, List.length_take] at this; omega
     have hpi := hpre i
     refine DC.seq <| Zs ?_
     refine Zm ?_
     refine Zf CT ?_
     refine Zl Ek ?_
     refine Zm ?_
     refine Zo (Aj (ad' := ad.add i) rfl rfl rfl TW BE (by omega) (by omega) rfl) ?_
     refine Zu (Ai rfl rfl BA (Aw hc)) ?_
     refine Zn TT ?_
     refine Zc ?_
     refine Zx ?_
     refine Zd (fun c12 => ?_) fun c12 => ?_
     ·have hkl : k < l.length := by simpa using c12
      obtain ⟨x, hx⟩ : ∃ x, l[k]? = some x := ⟨_, Tz hkl⟩
      obtain ⟨a, rfl, ha⟩ := H1 (hok.fits hlm (TD hx))
      obtain ⟨adl, rfl, hcx⟩ := hrl.int hx
      have hil := Cu (a := (a : Int)) (by omega)
      refine DC.skip <| Fin.then <| DC.seq <| DC.block ?_
      refine DC.cut (ι := Value) (fun _ => True) (fun v => [(1, .pointer (some ⟨g1, 0, none⟩)), (4, v), (5, .int .i64 i), (6, .int .i64 k)])
       (fun v => [slc v 5 1 (byc (preL ls i ++ if k = 0 then [] else Lib.join ((l.take k).map Lib.itoa) [32] ++ [32])), blk g1 27 #[.bool true, .slice (some ad) ls.length cl, .slice Ac cs.length cc]]) ?first15 ?rest15
      case first15 =>
       refine Zs ?_
       refine Zm ?_
       refine Zo (Bs rfl rfl rfl) ?_
       refine Zx ?_
       refine Zd (fun c14 => ?_) fun c14 => ?_
       ·refine DC.region ?_
        refine Zm ?_
        refine Zw (AP (cs := #[_]) rfl rfl TV Dw Et rfl (by decide) (by decide) rfl rfl) fun g73 => ?_
        refine Seq.gen rfl rfl (AK rfl rfl rfl TV Dw Kf Et rfl (by decide) (by decide) (F := [blk g1 27 #[.bool true, .slice (some ad) ls.length cl, .slice Ac cs.length cc]]) (news := byc [32]) (k := 1) (fun w hw => hw.pick (.cons 1 rfl (.cons 1 rfl .nil))) (.inl ⟨_, _, rfl, Ak rfl⟩) rfl (DD _) (by simp only [byc_len, List.length_append, List.length_cons, List.length_nil]; omega)) ?_
        rintro v74 _ rfl
        refine Za ?_
        refine Seq.nil ?_
        have hk0 : k ≠ 0 := by simp at c14; omega
        refine AG v74 trivial ⟨rfl, rfl, rfl, rfl, trivial⟩ (.cons' 0 rfl (by rw [if_neg hk0, ← Hb, List.append_assoc]) (.cons 0 rfl .nil))
       refine DC.skip ?_
       have hk0 : k = 0 := by simp at c14; omega
       refine AG v6 trivial ⟨rfl, rfl, rfl, rfl, trivial⟩ (.cons' 0 rfl (by rw [if_pos hk0, hk0]; rfl) (.cons 0 rfl .nil))
      rintro v7 _
      refine DC.region ?_
      refine Zm ?_
      refine Zf CT ?_
      refine Zl Ek ?_
      refine Zm ?_
      refine Zo (Aj (ad' := ad.add i) rfl rfl rfl TW BE (by omega) (by omega) rfl) ?_
      refine Zu (Ai rfl rfl BA (Aw hc)) ?_
      refine Zm ?_
      refine Zo (Aj (ad' := adl.add k) rfl rfl rfl TT AQ (by omega) (by omega) rfl) ?_
      refine Zu (Ai rfl rfl AJ (Aw hcx)) ?_
      refine Seq.rel0 rfl rfl (Ar PQ rfl rfl rfl (fun w' hw => CH ha)) ?_
      rintro _ rfl
      refine Seq.gen rfl rfl (CK rfl rfl rfl TV Tryz.underlying9 Dw Kf Et (fun w hw => hw) (by
       rw [byc_len, List.length_append]
       split
       ·simp only [List.length_nil]; omega
       rw [List.length_append]; simp only [List.length_cons, List.length_nil]; omega)) ?_
      rintro v85 _ rfl
      refine Za ?_
      refine Seq.nil <| Fin.inBlock <| Fin.then <| DC.region ?_
      refine Zm ?_
      refine Zp ?_
      refine Za ?_
      refine Seq.nil ?_
      refine Ag ⟨k + 1, v85⟩ (by dsimp only; omega) (by dsimp only; omega) ⟨rfl, rfl, rfl, rfl, trivial⟩ (.cons' 0 rfl ?_ (.cons 0 rfl .nil))
      dsimp only
      rw [Oj hx, ← Hb]
      by_cases hk0 : k = 0
      ·rw [if_pos hk0, if_pos hk0, List.append_nil]
      rw [if_neg hk0, if_neg hk0]; simp only [List.append_assoc]
     refine DC.exit <| Ad <| Ad <| Ah <| Fin.then <| DC.region ?_
     refine Zm ?_
     refine Zw (AP (cs := #[_]) rfl rfl TV Dw Et rfl (by decide) (by decide) rfl rfl) fun g87 => ?_
     refine Seq.gen rfl rfl (AK rfl rfl rfl TV Dw Kf Et rfl (by decide) (by decide) (F := [blk g1 27 #[.bool true, .slice (some ad) ls.length cl, .slice Ac cs.length cc]]) (news := byc [10]) (k := 1) (fun w hw => hw.pick (.cons 1 rfl (.cons 1 rfl .nil))) (.inl ⟨_, _, rfl, Ak rfl⟩) rfl (DD _) (by simp only [byc_len, List.length_append, List.length_cons, List.length_nil]; omega)) ?_
     rintro v88 _ rfl
     refine Za ?_
     refine Seq.nil <| Fin.inBlock <| Fin.then <| DC.region ?_
     refine Zm ?_
     refine Zp ?_
     refine Za ?_
     refine Seq.nil ?_
     have hke : k = l.length := by simp at c12; omega
     subst hke
     refine Ag ⟨i + 1, v88⟩ (by dsimp only; omega) (by dsimp only; omega) ⟨rfl, rfl, rfl, trivial⟩ (.cons' 0 rfl (by dsimp only; rw [NV hl, ← Hb, List.take_length, List.append_assoc]) (.cons 0 rfl .nil))
    refine DC.exit <| Ad <| Ad <| Ah ?_
    have hie : i = ls.length := by simp at c9; omega
    subst hie
    refine AG v4 trivial ⟨rfl, trivial⟩ (.cons' 0 rfl (by unfold preL certB textB; rw [if_pos rfl, List.length_map, List.take_of_length_le (by simp)]) .nil)
   cases c4
  rintro v4 _
  refine DC.seq <| DC.seq ?_
  refine F9 (i := 0) rfl ?_
  rintro A4 c4' rfl hA4
  have hne : certB true ls cs ≠ [] := by unfold certB textB headB; simp
  obtain ⟨ad4, rfl⟩ := hA4 (fun e => hne (by have := congrArg List.length e; rw [byc_len] at this; exact TO this))
  refine DC.region ?_
  refine Zm ?_
  refine Zn TV ?_
  refine Zo (Bs rfl rfl rfl) ?_
  refine Zx ?_
  refine Zd (fun c28 => ?_) fun c28 => ?_
  ·refine Zs ?_
   iterate 2 refine Za ?_
   refine Zx <| DC.ret <| Aa ?_
   refine Fin.weak (E' := [(2, str []), (3, .int .i64 10)]) ⟨rfl, rfl, trivial⟩ .nil ?_
   refine AL (.inl rfl) rfl rfl rfl ?_
   refine ⟨rfl, [], 10, rfl, ?_⟩
   simp only [show ¬ ((10 : Int) = 0) by decide, false_iff]
   rintro ⟨_, h1⟩
   rw [byc_len] at c28
   simp at c28; omega
  refine DC.skip <| Fin.then <| Zs ?_
  refine Zm ?_
  refine Zu (Ev (l := certB true ls cs) rfl rfl (byc_len _).symm TV Tryz.underlying5 Tryz.underlying9 (BB (i := 0) rfl)) ?_
  iterate 2 refine Za ?_
  refine Zx <| DC.ret ?_
  refine Fin.weak (E' := [(2, str (certB true ls cs)), (3, .int .i64 0)]) ⟨rfl, rfl, trivial⟩ .nil ?_
  refine AL (.inl rfl) rfl rfl rfl ?_
  refine ⟨rfl, _, 0, rfl, ?_⟩
  simp only [true_iff]
  rw [byc_len] at c28
  exact ⟨⟨hcs, hok⟩, by simp at c28; omega⟩
 cases k1_2
def preE (es : List Pr) (i : Nat) : List UInt8 := headB [110] es.length ++ ((es.map fun e => lineB [e.1, e.2]).take i).flatten
theorem NW {es : List Pr} {i : Nat} {e : Pr} (h : es[i]? = some e) : preE es (i + 1) = preE es i ++ (Lib.itoa e.1 ++ ([32] ++ (Lib.itoa e.2 ++ [10]))) := by
 unfold preE
 rw [CM (l := es.map fun e => lineB [e.1, e.2]) (x := lineB [e.1, e.2]) (by rw [List.getElem?_map, h]; rfl), ← List.append_assoc]
 congr 1
 simp [lineB, Lib.join, List.intercalate, List.intersperse]
theorem GO {ls : List (List Int)} {cs : List Pr} {v u : Value} {w : World} (hv : LsV w v ls) (hu : PrV w u cs) :
  Calls Tryz.prog 31 #[.agg #[.bool false, v, u]] w (Ret w [] fun r L => L = [] ∧ ∃ s e, r = .tuple #[str s, .int .i64 e] ∧ (e = 0 ↔ TextOk false ls cs)) := by
 have hv0 := hv
 have hu0 := hu
 obtain ⟨Al, cl, rfl, hr, hlc, hcm, hle⟩ := hv
 obtain ⟨Ac, cc, rfl, hrc, hlcc, hcmc, hlec⟩ := hu
 refine Ao (args := [_]) (L := []) Tryz.func31 rfl Tryz.ntmps31 rfl (Own.start _ _) ?_
 refine Zs ?_
 refine Zw (Ba rfl rfl rfl) fun g1 => ?_
 iterate 2 refine Za ?_
 refine Zx <| DC.seq <| Zs ?_
 refine Zf CU ?_
 refine Zl II ?_
 refine Zm ?_
 refine Seq.split 10 rfl (fun k1_2 => ?_) (fun k1_2 => ?_)
 ·cases k1_2
 iterate 10 refine Zk ?_
 refine Zg ?_
 refine Zm ?_
 refine Zf CU ?_
 refine Zl II ?_
 refine Zo (Bd rfl rfl) ?_
 refine Zm ?_
 refine Seq.split 26 rfl (fun k1_18 => ?_) (fun k1_18 => ?_)
 ·refine Zf CT ?_
  refine Zl Ek ?_
  refine Zn TW ?_
  refine Zo (Bs rfl rfl rfl) ?_
  refine Zm ?_
  refine Seq.split 31 rfl (fun k1_23 => ?_) (fun k1_23 => ?_)
  ·refine Zk ?_
   iterate 3 refine Zk ?_
   iterate 2 refine Zt ?_
   refine Zg ?_
   refine Zx ?_
   refine AI rfl ?_
   refine Zs ?_
   iterate 2 refine Za ?_
   refine Zx <| DC.ret <| Aa ?_
   refine Fin.weak (E' := [(2, str []), (3, .int .i64 170)]) ⟨rfl, rfl, trivial⟩ .nil ?_
   refine AL (.inl rfl) rfl rfl rfl ?_
   refine ⟨rfl, [], 170, rfl, ?_⟩
   simp only [show ¬ ((170 : Int) = 0) by decide, false_iff]
   rintro ⟨⟨h1, _⟩, _⟩
   rw [h1] at k1_23
   simp at k1_23
  refine Zf Cr ?_
  refine Zl Bu ?_
  refine Seq.rel0 rfl rfl (Ar en61 rfl rfl rfl (fun w' hw => Hr (hu0.keep0 hw))) ?_
  rintro _ ⟨b1, rfl, hb1⟩
  refine Zo (Bd rfl rfl) ?_
  refine Zg ?_
  refine Zt ?_
  refine Zg ?_
  refine Zx ?_
  refine Zd (fun c1 => ?_) fun c1 => ?_
  ·refine Zs ?_
   iterate 2 refine Za ?_
   refine Zx <| DC.ret <| Aa ?_
   refine Fin.weak (E' := [(2, str []), (3, .int .i64 170)]) ⟨rfl, rfl, trivial⟩ .nil ?_
   refine AL (.inl rfl) rfl rfl rfl ?_
   refine ⟨rfl, [], 170, rfl, ?_⟩
   simp only [show ¬ ((170 : Int) = 0) by decide, false_iff]
   rintro ⟨⟨_, h1⟩, _⟩
   rw [hb1.2 h1] at c1
   simp at c1
  refine DC.skip <| Fin.then <| DC.seq ?_
  have hcs : ls = [] := by simp at k1_23; exact k1_23
  have hok : EdgesOk cs := hb1.1 (by simpa using c1)
  have hmany := hok.few
  have hline : ∀ x, x ∈ (cs.map fun e => lineB [e.1, e.2]) → x.length ≤ 43 := fun x hx => by
   obtain ⟨e, he, rfl⟩ := List.mem_map.1 hx
   obtain ⟨j, hj⟩ := TF.1 he
   have h2 := hok.ok j e hj
   have h1 := CS (ns := [e.1, e.2]) (fun a ha => by simp at ha; unfold I64; unfold Fits at h2; rcases ha with rfl | rfl <;> omega)
   simp at h1; omega
  have hpre : ∀ i, (preE cs i).length ≤ 50000000000000 := fun i => by
   have h1 := Lr (L := (cs.map fun e => lineB [e.1, e.2]).take i) (fun x hx => hline x (List.mem_of_mem_take hx))
   have h2 : ((cs.map fun e => lineB [e.1, e.2]).take i).length * 43 ≤ 4194304 * 43 := Nat.mul_le_mul_right _ (by rw [List.length_take, List.length_map]; omega)
   have h3 := Dg (letter := [110]) (n := cs.length) rfl (by omega)
   unfold preE
   rw [List.length_append]; omega
  refine DC.region ?_
  refine Za ?_
  refine Zx ?_
  refine DC.cut (ι := Value) (fun _ => True) (fun v => [(4, v)]) (fun v => [slc v 5 1 (byc (certB false ls cs))]) ?first23 ?rest23
  case first23 =>
   refine Zs ?_
   refine Zf CU ?_
   refine Zl II ?_
   refine Zx ?_
   refine Zd (fun c4 => ?_) fun c4 => ?_
   ·cases c4
   refine Zs ?_
   refine Zm ?_
   refine Zw (AP (cs := #[_, _]) rfl rfl TV Dw Et rfl (by decide) (by decide) rfl rfl) fun g90 => ?_
   refine Seq.gen rfl rfl (AK rfl rfl rfl TV Dw Kf Et rfl (by decide) (by decide) (news := byc [110, 32]) (k := 2) (fun w hw => AX (t := 5) (m := 1) (hw.sub (L' := [blk g1 27 #[.bool false, .slice Al ls.length cl, .slice Ac cs.length cc]]) (TG ..))) (.inl ⟨_, _, rfl, Ak rfl⟩) rfl (DD _) (by simp)) ?_
   rintro v91 _ rfl
   refine Za ?_
   refine Zx <| Zs ?_
   refine Zm ?_
   refine Zf Cr ?_
   refine Zl Bu ?_
   refine Zn TU ?_
   refine Seq.rel0 rfl rfl (Ar PQ rfl rfl rfl (fun w' hw => CH (a := cs.length) (by omega))) ?_
   rintro _ rfl
   refine Seq.gen rfl rfl (CK rfl rfl rfl TV Tryz.underlying9 Dw Kf Et (fun w hw => hw) (by have := Cu (a := (cs.length : Int)) (by omega); simp; omega)) ?_
   rintro v97 _ rfl
   refine Za ?_
   refine Zx <| Zs ?_
   refine Zm ?_
   refine Zw (AP (cs := #[_]) rfl rfl TV Dw Et rfl (by decide) (by decide) rfl rfl) fun g99 => ?_
   refine Seq.gen rfl rfl (AK rfl rfl rfl TV Dw Kf Et rfl (by decide) (by decide) (F := [blk g1 27 #[.bool false, .slice Al ls.length cl, .slice Ac cs.length cc]]) (news := byc [10]) (k := 1) (fun w hw => hw.pick (.cons 1 rfl (.cons 1 rfl .nil))) (.inl ⟨_, _, rfl, Ak rfl⟩) rfl (DD _) (by have := Cu (a := (cs.length : Int)) (by omega); simp; omega)) ?_
   rintro v100 _ rfl
   refine Za ?_
   refine Zx <| Zs ?_
   refine Za ?_
   refine Zx <| DC.block ?_
   refine DC.loop (ι := PtI) (fun j => j.i ≤ cs.length) (fun j => [(1, .pointer (some ⟨g1, 0, none⟩)), (4, j.v), (7, .int .i64 j.i)])
    (fun j => [slc j.v 5 1 (byc (preE cs j.i)), blk g1 27 #[.bool false, .slice Al ls.length cl, .slice Ac cs.length cc]]) (fun j => cs.length - j.i) ⟨0, v100⟩ (Nat.zero_le _) ⟨rfl, rfl, rfl, trivial⟩ (.cons' 0 rfl (by dsimp only; unfold preE; rw [Nr]; simp [byc, Lib.byteCells]) (.cons 0 rfl .nil)) ?_
   rintro ⟨i, v4⟩ hi
   dsimp only at hi ⊢
   refine DC.seq <| Zs ?_
   refine Zm ?_
   refine Zf Cr ?_
   refine Zl Bu ?_
   refine Zn TU ?_
   refine Zc ?_
   refine Zx ?_
   refine Zd (fun c22 => ?_) fun c22 => ?_
   ·have hlt : i < cs.length := by simpa using c22
    obtain ⟨e, he⟩ : ∃ e, cs[i]? = some e := ⟨_, Tz hlt⟩
    obtain ⟨ad, rfl, hU, hVe⟩ := hrc.pair he
    obtain ⟨hf1, hf2, _⟩ := hok.ok i e he
    obtain ⟨a, ha, ha1⟩ := H1 hf1
    obtain ⟨b, hb, hb1'⟩ := H1 hf2
    obtain rfl : e = ((a : Int), (b : Int)) := Prod.ext ha hb
    clear ha hb hf1 hf2
    replace hU : w.cell? (ad.add (i * 2)) = some (.int .i64 (a : Int)) := hU
    replace hVe : w.cell? (ad.add (i * 2 + 1)) = some (.int .i64 (b : Int)) := hVe
    have hia := Cu (a := (a : Int)) (by omega)
    have hib := Cu (a := (b : Int)) (by omega)
    have hpi := hpre i
    refine DC.skip <| Fin.then <| DC.seq <| DC.block <| Zs ?_
    refine Zm ?_
    refine Zf Cr ?_
    refine Zl Bu ?_
    refine Zm ?_
    refine Zo (AM (ad' := ad.add (i * 2)) rfl rfl rfl TU AY (by omega) (by omega) rfl) ?_
    refine Zo (Bq (ad' := ad.add (i * 2)) rfl rfl Bb (by simp [Addr.add])) ?_
    refine Zu (Ai rfl rfl AJ (Aw hU)) ?_
    refine Seq.rel0 rfl rfl (Ar PQ rfl rfl rfl (fun w' hw => CH ha1)) ?_
    rintro _ rfl
    refine Seq.gen rfl rfl (CK rfl rfl rfl TV Tryz.underlying9 Dw Kf Et (fun w hw => hw) (by rw [byc_len]; omega)) ?_
    rintro v116 _ rfl
    refine Za ?_
    refine Zx <| Zs ?_
    refine Zm ?_
    refine Zw (AP (cs := #[_]) rfl rfl TV Dw Et rfl (by decide) (by decide) rfl rfl) fun g118 => ?_
    refine Seq.gen rfl rfl (AK rfl rfl rfl TV Dw Kf Et rfl (by decide) (by decide) (F := [blk g1 27 #[.bool false, .slice Al ls.length cl, .slice (some ad) cs.length cc]]) (news := byc [32]) (k := 1) (fun w hw => hw.pick (.cons 1 rfl (.cons 1 rfl .nil))) (.inl ⟨_, _, rfl, Ak rfl⟩) rfl (DD _) (by simp only [byc_len, List.length_append, List.length_cons, List.length_nil]; omega)) ?_
    rintro v119 _ rfl
    refine Za ?_
    refine Zx <| Zs ?_
    refine Zm ?_
    refine Zf Cr ?_
    refine Zl Bu ?_
    refine Zm ?_
    refine Zo (AM (ad' := ad.add (i * 2)) rfl rfl rfl TU AY (by omega) (by omega) rfl) ?_
    refine Zo (Bq (ad' := ad.add (i * 2 + 1)) rfl rfl Bk (B6 _ _ _ (by decide))) ?_
    refine Zu (Ai rfl rfl AJ (Aw hVe)) ?_
    refine Seq.rel0 rfl rfl (Ar PQ rfl rfl rfl (fun w' hw => CH hb1')) ?_
    rintro _ rfl
    refine Seq.gen rfl rfl (CK rfl rfl rfl TV Tryz.underlying9 Dw Kf Et (fun w hw => hw) (by simp only [byc_len, List.length_append, List.length_cons, List.length_nil]; omega)) ?_
    rintro v128 _ rfl
    refine Za ?_
    refine Zx <| DC.region ?_
    refine Zm ?_
    refine Zw (AP (cs := #[_]) rfl rfl TV Dw Et rfl (by decide) (by decide) rfl rfl) fun g130 => ?_
    refine Seq.gen rfl rfl (AK rfl rfl rfl TV Dw Kf Et rfl (by decide) (by decide) (F := [blk g1 27 #[.bool false, .slice Al ls.length cl, .slice (some ad) cs.length cc]]) (news := byc [10]) (k := 1) (fun w hw => hw.pick (.cons 1 rfl (.cons 1 rfl .nil))) (.inl ⟨_, _, rfl, Ak rfl⟩) rfl (DD _) (by simp only [byc_len, List.length_append, List.length_cons, List.length_nil]; omega)) ?_
    rintro v131 _ rfl
    refine Za ?_
    refine Seq.nil <| Fin.inBlock <| Fin.then <| DC.region ?_
    refine Zm ?_
    refine Zp ?_
    refine Za ?_
    refine Seq.nil ?_
    refine Ag ⟨i + 1, v131⟩ (by dsimp only; omega) (by dsimp only; omega) ⟨rfl, rfl, rfl, trivial⟩ (.cons' 0 rfl (by dsimp only; rw [NW he]; simp only [Hb, List.append_assoc]) (.cons 0 rfl .nil))
   refine DC.exit <| Ad <| Ad <| Ah ?_
   have hie : i = cs.length := by simp at c22; omega
   subst hie
   refine AG v4 trivial ⟨rfl, trivial⟩ (.cons' 0 rfl (by unfold preE certB textB; rw [if_neg (by simp), List.length_map, List.take_of_length_le (by simp)]) .nil)
  rintro v4 _
  refine DC.seq <| DC.seq ?_
  refine F9 (i := 0) rfl ?_
  rintro A4 c4' rfl hA4
  have hne : certB false ls cs ≠ [] := by unfold certB textB headB; simp
  obtain ⟨ad4, rfl⟩ := hA4 (fun e => hne (by have := congrArg List.length e; rw [byc_len] at this; exact TO this))
  refine DC.region ?_
  refine Zm ?_
  refine Zn TV ?_
  refine Zo (Bs rfl rfl rfl) ?_
  refine Zx ?_
  refine Zd (fun c28 => ?_) fun c28 => ?_
  ·refine Zs ?_
   iterate 2 refine Za ?_
   refine Zx <| DC.ret <| Aa ?_
   refine Fin.weak (E' := [(2, str []), (3, .int .i64 10)]) ⟨rfl, rfl, trivial⟩ .nil ?_
   refine AL (.inl rfl) rfl rfl rfl ?_
   refine ⟨rfl, [], 10, rfl, ?_⟩
   simp only [show ¬ ((10 : Int) = 0) by decide, false_iff]
   rintro ⟨_, h1⟩
   rw [byc_len] at c28
   simp at c28; omega
  refine DC.skip <| Fin.then <| Zs ?_
  refine Zm ?_
  refine Zu (Ev (l := certB false ls cs) rfl rfl (byc_len _).symm TV Tryz.underlying5 Tryz.underlying9 (BB (i := 0) rfl)) ?_
  iterate 2 refine Za ?_
  refine Zx <| DC.ret ?_
  refine Fin.weak (E' := [(2, str (certB false ls cs)), (3, .int .i64 0)]) ⟨rfl, rfl, trivial⟩ .nil ?_
  refine AL (.inl rfl) rfl rfl rfl ?_
  refine ⟨rfl, _, 0, rfl, ?_⟩
  simp only [true_iff]
  rw [byc_len] at c28
  exact ⟨⟨hcs, hok⟩, by simp at c28; omega⟩
 cases k1_18
theorem Hs {pl : Bool} {ls : List (List Int)} {cs : List Pr} {v u : Value} {w : World} (hv : LsV w v ls) (hu : PrV w u cs) (hs : ∀ l, l ∈ ls → l.length ≤ 33554432) (hsm : ListsOk ls → (ls.map lineB).flatten.length ≤ 1048576 * 44040193) :
  Calls Tryz.prog 31 #[.agg #[.bool pl, v, u]] w (Ret w [] fun r L => L = [] ∧ ∃ s e, r = .tuple #[str s, .int .i64 e] ∧ (e = 0 ↔ TextOk pl ls cs)) := by
 cases pl
 ·exact GO hv hu
 exact GN hv hu hs hsm
end Go.Fl

namespace Go.Fl
open Go
open Classical
def VH (es : List Pr) (h : Int) : Prop := 0 ≤ h ∧ h < es.length * 2
def degV (es : List Pr) (v : Int) : Nat := (outs es v).length
/-- The half-edge by which one goes on behind h. -/
def nxtH (es : List Pr) (h : Int) : Int :=
 if ((outs es (toV es h))[0]?).getD (-1) = tw h then ((outs es (toV es h))[1]?).getD (-1) else ((outs es (toV es h))[0]?).getD (-1)
def contH (es : List Pr) (b h : Int) : Prop := degV es (toV es h) = 2 ∧ toV es h ≠ b
def wI (es : List Pr) (h : Int) : Nat → Int
 | 0 => h
 | k + 1 => nxtH es (wI es h k)
structure Way (es : List Pr) (h : Int) (t : Nat) : Prop where
 vh : VH es h
 cont : ∀ i, i < t → contH es (fromV es h) (wI es h i)
def wayL (es : List Pr) (h : Int) (t : Nat) : List Int := (List.range (t + 1)).map (wI es h)
structure Stops (es : List Pr) (h : Int) (t : Nat) : Prop where
 way : Way es h t
 stop : ¬ contH es (fromV es h) (wI es h t)
section
variable {N : Int} {es : List Pr} {h k : Int}
theorem I2 : ∀ {a b : List Int}, a.Nodup → (∀ x, x ∈ a → x ∈ b) → a.length ≤ b.length
 | [], b, _, _ => by simp
 | x :: r, b, hn, hs => by
  rw [List.nodup_cons] at hn
  have hx : x ∈ b := hs x (by simp)
  have ih := I2 (a := r) (b := b.erase x) hn.2 (fun y hy => (List.mem_erase_of_ne (fun e => hn.1 (by rw [← e]; exact hy))).2 (hs y (by simp [hy])))
  have := List.length_erase_of_mem hx
  have := List.length_pos_of_mem hx
  simp only [List.length_cons]; omega
theorem VH.tw (hh : VH es h) : VH es (tw h) := Hg hh.1 hh.2
theorem Sb (h : Int) : tw h ≠ h := by unfold tw; split <;> omega
theorem OL {h k : Int} (e : tw h = tw k) : h = k := by rw [← Kt h, e, Kt]
theorem CL (hh : VH es h) : fromV es (tw h) = toV es h := by unfold toV; rw [if_pos hh.1]
theorem IM (hh : VH es h) : toV es (tw h) = fromV es h := by unfold toV; rw [if_pos hh.tw.1, Kt]
theorem Mj (v : Int) : (outs es v).Nodup := by
 have := (Dc es 0 v).1
 exact this.imp fun h => by omega
theorem Cs (hV : Vld N es) (hh : VH es h) (hd : degV es (toV es h) = 2) :
  VH es (nxtH es h) ∧ fromV es (nxtH es h) = toV es h ∧ nxtH es h ≠ tw h ∧ nxtH es h ∈ outs es (toV es h) ∧ ∀ y, y ∈ outs es (toV es h) → y = nxtH es h ∨ y = tw h := by
 have hm : tw h ∈ outs es (toV es h) := (Bl hV).2 ⟨hh.tw.1, hh.tw.2, CL hh⟩
 have hn := Mj (es := es) (toV es h)
 unfold degV at hd
 match ho : outs es (toV es h), hd with
 | [a, b], _ =>
  rw [ho] at hm hn
  have hab : a ≠ b := by
   rw [List.nodup_cons] at hn
   intro e; exact hn.1 (by simp [e])
  have key : nxtH es h = if a = tw h then b else a := by unfold nxtH; rw [ho]; rfl
  have hmem : ∀ x, x ∈ [a, b] → VH es x ∧ fromV es x = toV es h := fun x hx => by
   rw [← ho] at hx
   obtain ⟨h1, h2, h3⟩ := (Bl hV).1 hx
   exact ⟨⟨h1, h2⟩, h3⟩
  rw [key]
  by_cases e : a = tw h
  ·rw [if_pos e]
   obtain ⟨q1, q2⟩ := hmem b (by simp)
   refine ⟨q1, q2, by rw [← e]; exact hab.symm, by simp, fun y hy => ?_⟩
   simp at hy
   rcases hy with rfl | rfl
   ·exact .inr e
   exact .inl rfl
  rw [if_neg e]
  obtain ⟨q1, q2⟩ := hmem a (by simp)
  have hb : b = tw h := by
   simp at hm
   rcases hm with rfl | rfl
   ·exact absurd rfl e
   rfl
  refine ⟨q1, q2, e, by simp, fun y hy => ?_⟩
  simp at hy
  rcases hy with rfl | rfl
  ·exact .inl rfl
  exact .inr hb
theorem QG (hV : Vld N es) (hh : VH es h) (hk : VH es k) (hd : degV es (toV es h) = 2) (hd' : degV es (toV es k) = 2) (e : nxtH es h = nxtH es k) : h = k := by
 obtain ⟨a1, a2, a3, a4, a5⟩ := Cs hV hh hd
 obtain ⟨b1, b2, b3, b4, b5⟩ := Cs hV hk hd'
 have hto : toV es h = toV es k := by rw [← a2, e, b2]
 have hm : tw h ∈ outs es (toV es k) := by rw [← hto]; exact (Bl hV).2 ⟨hh.tw.1, hh.tw.2, CL hh⟩
 rcases b5 _ hm with h1 | h1
 ·exact absurd (e.trans h1.symm) a3
 exact OL h1
section
variable {t : Nat}
theorem Way.le {s : Nat} (hw : Way es h t) (hs : s ≤ t) : Way es h s := ⟨hw.vh, fun i hi => hw.cont i (by omega)⟩
theorem Way.all (hV : Vld N es) (hw : Way es h t) : ∀ i, i ≤ t → VH es (wI es h i)
 | 0, _ => hw.vh
 | i + 1, hi => (Cs hV (hw.all hV i (by omega)) (hw.cont i (by omega)).1).1
theorem Way.link (hV : Vld N es) (hw : Way es h t) {i : Nat} (hi : i < t) : fromV es (wI es h (i + 1)) = toV es (wI es h i) :=
 (Cs hV (hw.all hV i (by omega)) (hw.cont i hi).1).2.1
theorem Way.ne (hV : Vld N es) (hw : Way es h t) : ∀ i j, i < j → j ≤ t → wI es h i ≠ wI es h j
 | 0, j + 1, _, hj => fun e => by
  have h1 := hw.link hV (i := j) (by omega)
  rw [← e] at h1
  exact (hw.cont j (by omega)).2 h1.symm
 | i + 1, j + 1, hij, hj => fun e =>
  hw.ne hV i j (by omega) (by omega) (QG hV (hw.all hV i (by omega)) (hw.all hV j (by omega)) (hw.cont i (by omega)).1 (hw.cont j (by omega)).1 e)
theorem Way.lt (hV : Vld N es) (hw : Way es h t) : t < es.length * 2 := by
 have hnd : (wayL es h t).Nodup := by
  unfold wayL List.Nodup
  rw [List.pairwise_map, List.pairwise_iff_getElem]
  intro i j hi hj hij
  simp only [List.length_range] at hi hj
  simp only [List.getElem_range]
  exact hw.ne hV i j hij (by omega)
 have := I2 (b := (List.range (es.length * 2)).map fun (x : Nat) => (x : Int)) hnd fun x hx => by
  obtain ⟨i, hi, rfl⟩ := List.mem_map.1 hx
  have h1 := hw.all hV i (by have := TN.1 hi; omega)
  obtain ⟨h2, h3⟩ := h1
  exact List.mem_map.2 ⟨(wI es h i).toNat, TN.2 (by omega), by omega⟩
 simp [wayL] at this; omega
theorem Way.ne_tw' (hV : Vld N es) (hw : Way es h t) : ∀ d a, a + d ≤ t → wI es h (a + d) ≠ tw (wI es h a)
 | 0, a, _ => fun e => Sb _ e.symm
 | 1, a, hb => (Cs hV (hw.all hV a (by omega)) (hw.cont a (by omega)).1).2.2.1
 | d + 2, a, hb => fun e => by
  have ha := hw.all hV a (by omega)
  have hb' := hw.all hV (a + d + 1) (by omega)
  obtain ⟨a1, a2, a3, a4, a5⟩ := Cs hV ha (hw.cont a (by omega)).1
  have h1 := hw.link hV (i := a + d + 1) (by omega)
  rw [show a + d + 1 + 1 = a + (d + 2) by omega, e, CL ha] at h1
  have hm : tw (wI es h (a + d + 1)) ∈ outs es (toV es (wI es h a)) := by rw [h1]; exact (Bl hV).2 ⟨hb'.tw.1, hb'.tw.2, CL hb'⟩
  rcases a5 _ hm with h2 | h2
  ·refine hw.ne_tw' hV d (a + 1) (by omega) ?_
   rw [show a + 1 + d = a + d + 1 by omega]
   show _ = tw (nxtH es (wI es h a))
   rw [← h2, Kt]
  exact hw.ne hV a (a + d + 1) (by omega) (by omega) (OL h2).symm
theorem Way.ne_tw (hV : Vld N es) (hw : Way es h t) {a b : Nat} (ha : a ≤ t) (hb : b ≤ t) : wI es h a ≠ tw (wI es h b) := by
 rcases Nat.le_total b a with h1 | h1
 ·have := hw.ne_tw' hV (a - b) b (by omega)
  rw [show b + (a - b) = a by omega] at this; exact this
 intro e
 have := hw.ne_tw' hV (b - a) a (by omega)
 rw [show a + (b - a) = b by omega] at this
 exact this (by rw [e, Kt])
theorem Stops.uniq {s : Nat} (h1 : Stops es h t) (h2 : Stops es h s) : t = s := by
 rcases Nat.lt_trichotomy t s with c | c | c
 ·exact absurd (h2.way.cont t c) h1.stop
 ·exact c
 exact absurd (h1.way.cont s c) h2.stop
theorem OQ (hV : Vld N es) (hh : VH es h) : ∃ t, Stops es h t := by
 apply Classical.byContradiction
 intro hno
 have : ∀ t, Way es h t := by
  intro t
  induction t with
  | zero => exact ⟨hh, fun i hi => absurd hi (TS _)⟩
  | succ t ih =>
   refine ⟨hh, fun i hi => ?_⟩
   rcases TE.1 hi with h1 | rfl
   ·exact ih.cont i h1
   apply Classical.byContradiction
   intro hc
   exact hno ⟨i, ih, hc⟩
 have := (this (es.length * 2)).lt hV
 omega
end
/-- How far the way from a half-edge goes. -/
noncomputable def wayT (es : List Pr) (h : Int) : Nat := if e : ∃ t, Stops es h t then e.choose else 0
noncomputable def wayOf (es : List Pr) (h : Int) : List Int := wayL es h (wayT es h)
theorem Bz (hV : Vld N es) (hh : VH es h) : Stops es h (wayT es h) := by
 have e := OQ hV hh
 unfold wayT
 rw [dif_pos e]
 exact e.choose_spec
theorem GS {t : Nat} (hs : Stops es h t) : wayT es h = t := by
 have e : ∃ t, Stops es h t := ⟨t, hs⟩
 unfold wayT
 rw [dif_pos e]
 exact e.choose_spec.uniq hs
/-! ### lists of half-edges that hang together -/
def Link (es : List Pr) (l : List Int) : Prop := ∀ (i : Nat) x y, l[i]? = some x → l[i + 1]? = some y → fromV es y = toV es x
def AllH (es : List Pr) (l : List Int) : Prop := ∀ x, x ∈ l → VH es x
def aboutL (l : List Int) : List Int := l.reverse.map tw
theorem CF (h : Int) (t : Nat) : (wayL es h t).length = t + 1 := by simp [wayL]
theorem Dk {t i : Nat} (hi : i ≤ t) : (wayL es h t)[i]? = some (wI es h i) := by simp [wayL, show i < t + 1 by omega]
theorem Gb (h : Int) (t : Nat) : wayL es h (t + 1) = wayL es h t ++ [nxtH es (wI es h t)] := by unfold wayL; rw [List.range_succ, List.map_append]; rfl
theorem Kq (hV : Vld N es) {t : Nat} (hw : Way es h t) : Link es (wayL es h t) := by
 intro i x y hx hy
 have hi : i + 1 < t + 1 := by have := (TA.1 hy).1; rwa [CF] at this
 rw [Dk (by omega)] at hx hy
 cases hx; cases hy
 exact hw.link hV (by omega)
theorem DW (hV : Vld N es) {t : Nat} (hw : Way es h t) : AllH es (wayL es h t) := by
 intro x hx
 obtain ⟨i, hi, rfl⟩ := List.mem_map.1 hx
 exact hw.all hV i (by have := TN.1 hi; omega)
theorem Gy {l : List Int} (hl : AllH es l) : AllH es (aboutL l) := by
 intro x hx
 obtain ⟨y, hy, rfl⟩ := List.mem_map.1 hx
 exact (hl y (List.mem_reverse.1 hy)).tw
theorem BC (l : List Int) : (aboutL l).length = l.length := by simp [aboutL]
theorem Di {l : List Int} {i : Nat} (hi : i < l.length) : (aboutL l)[i]? = (l[l.length - 1 - i]?).map tw := by
 unfold aboutL
 rw [List.getElem?_map, List.getElem?_reverse hi]
theorem MN {l : List Int} (ha : AllH es l) (hl : Link es l) : Link es (aboutL l) := by
 intro i x y hx hy
 have hi : i + 1 < l.length := by have := (TA.1 hy).1; rwa [BC] at this
 rw [Di (by omega)] at hx
 rw [Di hi] at hy
 obtain ⟨x', hx', rfl⟩ := Option.map_eq_some_iff.1 hx
 obtain ⟨y', hy', rfl⟩ := Option.map_eq_some_iff.1 hy
 have := hl (l.length - 1 - (i + 1)) y' x' hy' (by rw [← hx']; congr 1; omega)
 rw [CL (ha _ (TD hy')), IM (ha _ (TD hx')), this]
theorem K2 {a b : List Int} (ha : Link es a) (hb : Link es b) (hj : ∀ x y, a.getLast? = some x → b.head? = some y → fromV es y = toV es x) : Link es (a ++ b) := by
 intro i x y hx hy
 by_cases h1 : i + 1 < a.length
 ·rw [TK (by omega)] at hx
  rw [TK h1] at hy
  exact ha i x y hx hy
 by_cases h2 : i < a.length
 ·rw [TK h2] at hx
  rw [TL (by omega), show i + 1 - a.length = 0 by omega] at hy
  refine hj x y ?_ (by rw [List.head?_eq_getElem?]; exact hy)
  rw [List.getLast?_eq_getElem?, show a.length - 1 = i by omega]; exact hx
 rw [TL (by omega)] at hx hy
 rw [show i + 1 - a.length = i - a.length + 1 by omega] at hy
 exact hb _ x y hx hy
theorem Ob {a : List Int} (ha : Link es a) (k : Nat) : Link es (a.drop k) := by
 intro i x y hx hy
 rw [List.getElem?_drop] at hx hy
 exact ha (k + i) x y hx (by rw [← hy]; congr 1)
/-! ### chains -/
/-- The way round from an edge comes back to it, through vertices of degree 2 NH. -/
def FreeC (es : List Pr) (e : Nat) : Prop := toV es (wI es (2 * e) (wayT es (2 * e))) = fromV es (2 * (e : Int)) ∧ degV es (fromV es (2 * (e : Int))) = 2
noncomputable def chainOf (es : List Pr) (e : Nat) : List Int :=
 if FreeC es e then wayOf es (2 * e) else aboutL (wayOf es (2 * e + 1)).tail ++ wayOf es (2 * e)
theorem Cy {e : Nat} (he : e < es.length) : VH es (2 * (e : Int)) := ⟨by omega, by omega⟩
theorem C7 {e : Nat} (he : e < es.length) : VH es (2 * (e : Int) + 1) := ⟨by omega, by omega⟩
theorem Fs (e : Nat) : tw (2 * (e : Int)) = 2 * (e : Int) + 1 := by unfold tw; rw [if_pos (by omega)]
theorem Dj (h : Int) : wayOf es h ≠ [] := by
 intro e
 have := congrArg List.length e
 simp [wayOf, CF] at this
theorem DX (h : Int) : (wayOf es h)[0]? = some h := by unfold wayOf; rw [Dk (by omega)]; rfl
theorem Fa (h : Int) : (wayOf es h).getLast? = some (wI es h (wayT es h)) := by
 rw [List.getLast?_eq_getElem?]
 unfold wayOf
 rw [CF, Dk (by omega)]; rfl
theorem Jj (hV : Vld N es) {e : Nat} (he : e < es.length) : AllH es (chainOf es e) := by
 have h1 := DW hV (Bz hV (Cy he)).way
 have h2 := DW hV (Bz hV (C7 he)).way
 unfold chainOf
 split
 ·exact h1
 intro x hx
 rcases List.mem_append.1 hx with hx | hx
 ·exact Gy (fun y hy => h2 y (List.mem_of_mem_tail hy)) x hx
 exact h1 x hx
theorem MK (hV : Vld N es) {e : Nat} (he : e < es.length) : Link es (chainOf es e) := by
 have h1 := Kq hV (Bz hV (Cy he)).way
 have h2 := Kq hV (Bz hV (C7 he)).way
 have a2 := DW hV (Bz hV (C7 he)).way
 unfold chainOf
 split
 ·exact h1
 have a3 : AllH es (wayOf es (2 * e + 1)).tail := fun y hy => a2 y (List.mem_of_mem_tail hy)
 have h3 : Link es (wayOf es (2 * e + 1)).tail := by rw [← List.drop_one]; exact Ob h2 1
 refine K2 (MN a3 h3) h1 fun x y hx hy => ?_
 rw [List.head?_eq_getElem?, DX] at hy
 cases hy
 rw [List.getLast?_eq_getElem?, BC] at hx
 have hpos : 0 < (wayOf es (2 * e + 1)).tail.length := by
  apply Nat.pos_of_ne_zero
  intro h0
  rw [h0] at hx
  have := (TA.1 hx).1
  rw [BC, h0] at this
  omega
 rw [Di (by omega), show (wayOf es (2 * e + 1)).tail.length - 1 - ((wayOf es (2 * e + 1)).tail.length - 1) = 0 by omega] at hx
 obtain ⟨z, hz, rfl⟩ := Option.map_eq_some_iff.1 hx
 rw [IM (a3 _ (TD hz))]
 have hz' : (wayOf es (2 * e + 1))[1]? = some z := by rw [List.getElem?_tail] at hz; exact hz
 have := h2 0 _ z (DX _) hz'
 rw [this, ← Fs, IM (Cy he)]
theorem FY (e : Nat) : chainOf es e ≠ [] := by
 unfold chainOf
 split
 ·exact Dj _
 intro h; exact Dj _ (List.append_eq_nil_iff.1 h).2
theorem ML (e : Nat) : (chainOf es e).getLast? = some (wI es (2 * e) (wayT es (2 * e))) := by
 unfold chainOf
 split
 ·exact Fa _
 rw [List.getLast?_append, Fa]; rfl
/-- The ends of the chain on which an edge lies. -/
noncomputable def endA (es : List Pr) (e : Nat) : Int := fromV es (((chainOf es e)[0]?).getD (-1))
noncomputable def endB (es : List Pr) (e : Nat) : Int := toV es (wI es (2 * e) (wayT es (2 * e)))
theorem DV (hV : Vld N es) (hh : VH es h) : (wayOf es h).length ≤ es.length * 2 := by
 have := (Bz hV hh).way.lt hV
 unfold wayOf
 rw [CF]; omega
theorem OA (hV : Vld N es) {e : Nat} (he : e < es.length) : (chainOf es e).length ≤ es.length * 4 := by
 have h1 := DV hV (Cy he)
 have h2 := DV hV (C7 he)
 unfold chainOf
 split
 ·omega
 rw [List.length_append, BC, List.length_tail]; omega
theorem Je {e : Nat} (hf : FreeC es e) : endA es e = endB es e := by
 unfold endA endB chainOf
 rw [if_pos hf, DX]
 exact hf.1.symm
theorem Ou (hV : Vld N es) {e : Nat} (he : e < es.length) (hf : ¬ FreeC es e) : endA es e = toV es (wI es (2 * e + 1) (wayT es (2 * e + 1))) := by
 unfold endA chainOf
 rw [if_neg hf]
 have hst := Bz hV (C7 he)
 have ha := DW hV hst.way
 have hlen : (wayOf es (2 * e + 1)).length = wayT es (2 * e + 1) + 1 := CF _ _
 by_cases h0 : wayT es (2 * e + 1) = 0
 ·have : (wayOf es (2 * e + 1)).tail = [] := by
   apply TO
   rw [List.length_tail, hlen, h0]
  rw [this]
  show fromV es ((([] : List Int) ++ wayOf es (2 * e))[0]?.getD (-1)) = _
  rw [List.nil_append, DX, h0]
  show fromV es (2 * (e : Int)) = toV es (2 * (e : Int) + 1)
  rw [← Fs, IM (Cy he)]
 rw [TK (by rw [BC, List.length_tail, hlen]; omega), Di (by rw [List.length_tail, hlen]; omega), List.length_tail, hlen, List.getElem?_tail]
 have : (wayOf es (2 * e + 1))[wayT es (2 * e + 1) + 1 - 1 - 1 - 0 + 1]? = some (wI es (2 * e + 1) (wayT es (2 * e + 1))) := by
  rw [show wayT es (2 * e + 1) + 1 - 1 - 1 - 0 + 1 = wayT es (2 * e + 1) by omega]
  exact Dk (by omega)
 rw [this]
 exact CL (hst.way.all hV _ (by omega))
/-- Which edges the chains are taken from: those that lie on no chain yet. -/
noncomputable def selU (es : List Pr) : Nat → List Nat
 | 0 => []
 | k + 1 => if ∃ e, e ∈ selU es k ∧ ∃ x, x ∈ chainOf es e ∧ x / 2 = k then selU es k else selU es k ++ [k]
theorem Ex : ∀ (k : Nat), (selU es k).length ≤ k
 | 0 => by simp [selU]
 | k + 1 => by
  have := Ex k
  unfold selU
  split
  ·omega
  simp; omega
end
end Go.Fl

namespace Go.Fl
open Go
open Classical
def srt (a b : Int) : Pr := (min a b, max a b)
/-- The ends of the chains. -/
noncomputable def endsU (es : List Pr) (k : Nat) : List Pr := (selU es k).map fun e => srt (endA es e) (endB es e)
def brV (es : List Pr) (n : Nat) : List Int := ((List.range n).filter fun (v : Nat) => decide (degV es (v : Int) ≠ 0 ∧ degV es (v : Int) ≠ 2)).map fun (v : Nat) => (v : Int)
def pairsOf : List Int → List Pr
 | [] => []
 | x :: r => r.map (srt x) ++ pairsOf r
def crossOf (S : List Int) : List Pr := (S.take 3).flatMap fun x => (S.drop 3).map (srt x)
/-- The least and those that are not joined to it, then the others. -/
def sidesOf (E : List Pr) (B : List Int) : List Int := (B.filter fun v => decide (srt (B.headD 0) v ∉ E)) ++ B.filter fun v => decide (srt (B.headD 0) v ∈ E)
/-- The reference's: the least itself is ahead. -/
def sidesR (E : List Pr) (B : List Int) : List Int := (B.filter fun v => decide (v = B.headD 0 ∨ srt (B.headD 0) v ∉ E)) ++ B.filter fun v => decide (v ≠ B.headD 0 ∧ srt (B.headD 0) v ∈ E)
def GoodE (E : List Pr) : Prop := E.Nodup ∧ ∀ p, p ∈ E → p.1 ≠ p.2
theorem C5 : ∀ {B : List Int} {q : Pr}, q ∈ pairsOf B ↔ ∃ (i j : Nat) (x y : Int), i < j ∧ B[i]? = some x ∧ B[j]? = some y ∧ q = srt x y
 | [], q => by simp [pairsOf]
 | x :: r, q => by
  unfold pairsOf
  rw [List.mem_append, C5, List.mem_map]
  constructor
  ·rintro (⟨y, hy, rfl⟩ | ⟨i, j, a, b, hij, ha, hb, rfl⟩)
   ·obtain ⟨j, hj⟩ := TF.1 hy
    exact ⟨0, j + 1, x, y, by omega, rfl, by simpa using hj, rfl⟩
   exact ⟨i + 1, j + 1, a, b, by omega, by simpa using ha, by simpa using hb, rfl⟩
  rintro ⟨i, j, a, b, hij, ha, hb, rfl⟩
  match i, j with
  | 0, j + 1 =>
   left
   simp at ha hb
   subst ha
   exact ⟨b, TD hb, rfl⟩
  | i + 1, j + 1 =>
   right
   exact ⟨i, j, a, b, by omega, by simpa using ha, by simpa using hb, rfl⟩
theorem Dy {S : List Int} {q : Pr} : q ∈ crossOf S ↔ ∃ (i j : Nat) (x y : Int), i < 3 ∧ 3 ≤ j ∧ S[i]? = some x ∧ S[j]? = some y ∧ q = srt x y := by
 unfold crossOf
 rw [List.mem_flatMap]
 constructor
 ·rintro ⟨x, hx, hq⟩
  obtain ⟨y, hy, rfl⟩ := List.mem_map.1 hq
  obtain ⟨i, hi⟩ := TF.1 hx
  obtain ⟨j, hj⟩ := TF.1 hy
  rw [List.getElem?_take] at hi
  rw [List.getElem?_drop] at hj
  split at hi
  ·exact ⟨i, 3 + j, x, y, by omega, by omega, hi, hj, rfl⟩
  cases hi
 rintro ⟨i, j, x, y, hi, hj, hx, hy, rfl⟩
 refine ⟨x, TF.2 ⟨i, by rw [List.getElem?_take, if_pos hi]; exact hx⟩, List.mem_map.2 ⟨y, TF.2 ⟨j - 3, ?_⟩, rfl⟩⟩
 rw [List.getElem?_drop, show 3 + (j - 3) = j by omega]; exact hy
theorem M2 {a b c d : Int} (h : srt a b = srt c d) : (a = c ∧ b = d) ∨ (a = d ∧ b = c) := by
 unfold srt at h
 have h1 := congrArg Prod.fst h
 have h2 := congrArg Prod.snd h
 simp only at h1 h2
 omega
theorem Pj {a b c d e : Int} (hn : [a, b, c, d, e].Nodup) : (pairsOf [a, b, c, d, e]).Nodup ∧ (pairsOf [a, b, c, d, e]).length = 10 ∧ ∀ p, p ∈ pairsOf [a, b, c, d, e] → p.1 ≠ p.2 := by
 simp only [List.nodup_cons, List.mem_cons, List.not_mem_nil, or_false, not_or] at hn
 refine ⟨?_, rfl, ?_⟩
 ·simp only [pairsOf, List.map_cons, List.map_nil, List.nil_append, List.cons_append, List.append_nil, List.nodup_cons, List.mem_cons, List.not_mem_nil, or_false, not_or]
  have key : ∀ {x y z w : Int}, ¬ (x = z ∧ y = w) → ¬ (x = w ∧ y = z) → ¬ srt x y = srt z w := fun h1 h2 h3 => by
   rcases M2 h3 with h | h
   ·exact h1 h
   exact h2 h
  refine ⟨⟨?_, ?_, ?_, ?_, ?_, ?_, ?_, ?_, ?_⟩, ⟨?_, ?_, ?_, ?_, ?_, ?_, ?_, ?_⟩, ⟨?_, ?_, ?_, ?_, ?_, ?_, ?_⟩, ⟨?_, ?_, ?_, ?_, ?_, ?_⟩, ⟨?_, ?_, ?_, ?_, ?_⟩, ⟨?_, ?_, ?_, ?_⟩, ⟨?_, ?_, ?_⟩, ⟨?_, ?_⟩, ?_, ?_, List.nodup_nil⟩ <;> first | exact key (by omega) (by omega) | exact not_false
 intro p hp
 simp only [pairsOf, List.map_cons, List.map_nil, List.nil_append, List.cons_append, List.append_nil, List.mem_cons, List.not_mem_nil, or_false] at hp
 rcases hp with rfl | rfl | rfl | rfl | rfl | rfl | rfl | rfl | rfl | rfl <;> (unfold srt; simp only; omega)
theorem Nh {a b c d e f : Int} (hn : [a, b, c, d, e, f].Nodup) : (crossOf [a, b, c, d, e, f]).Nodup ∧ (crossOf [a, b, c, d, e, f]).length = 9 ∧ ∀ p, p ∈ crossOf [a, b, c, d, e, f] → p.1 ≠ p.2 := by
 simp only [List.nodup_cons, List.mem_cons, List.not_mem_nil, or_false, not_or] at hn
 refine ⟨?_, rfl, ?_⟩
 ·simp only [crossOf, List.take_succ_cons, List.take_zero, List.drop_succ_cons, List.drop_zero, List.flatMap_cons, List.flatMap_nil, List.map_cons, List.map_nil, List.nil_append, List.cons_append, List.append_nil, List.nodup_cons, List.mem_cons, List.not_mem_nil, or_false, not_or]
  have key : ∀ {x y z w : Int}, ¬ (x = z ∧ y = w) → ¬ (x = w ∧ y = z) → ¬ srt x y = srt z w := fun h1 h2 h3 => by
   rcases M2 h3 with h | h
   ·exact h1 h
   exact h2 h
  refine ⟨⟨?_, ?_, ?_, ?_, ?_, ?_, ?_, ?_⟩, ⟨?_, ?_, ?_, ?_, ?_, ?_, ?_⟩, ⟨?_, ?_, ?_, ?_, ?_, ?_⟩, ⟨?_, ?_, ?_, ?_, ?_⟩, ⟨?_, ?_, ?_, ?_⟩, ⟨?_, ?_, ?_⟩, ⟨?_, ?_⟩, ?_, ?_, List.nodup_nil⟩ <;> first | exact key (by omega) (by omega) | exact not_false
 intro p hp
 simp only [crossOf, List.take_succ_cons, List.take_zero, List.drop_succ_cons, List.drop_zero, List.flatMap_cons, List.flatMap_nil, List.map_cons, List.map_nil, List.nil_append, List.cons_append, List.append_nil, List.mem_cons, List.not_mem_nil, or_false] at hp
 rcases hp with rfl | rfl | rfl | rfl | rfl | rfl | rfl | rfl | rfl <;> (unfold srt; simp only; omega)
theorem Re {B : List Int} (h : B.length = 5) : ∃ a b c d e, B = [a, b, c, d, e] := by
 match B, h with
 | [a, b, c, d, e], _ => exact ⟨a, b, c, d, e, rfl⟩
theorem Rc {B : List Int} (h : B.length = 6) : ∃ a b c d e f, B = [a, b, c, d, e, f] := by
 match B, h with
 | [a, b, c, d, e, f], _ => exact ⟨a, b, c, d, e, f, rfl⟩
theorem GE : ∀ {Q E : List Pr}, Q.Nodup → (∀ q, q ∈ Q → q ∈ E) → E.length = Q.length → E.Perm Q
 | [], E, _, _, hl => by
  have : E = [] := TO (by simpa using hl)
  rw [this]
 | q :: Q, E, hn, hs, hl => by
  rw [List.nodup_cons] at hn
  have hq := hs q (by simp)
  have h1 := List.length_erase_of_mem hq
  have h2 := GE (E := E.erase q) hn.2 (fun x hx => (List.mem_erase_of_ne (fun e => hn.1 (by rw [← e]; exact hx))).2 (hs x (by simp [hx]))) (by rw [h1, hl]; simp)
  exact (List.perm_cons_erase hq).trans (h2.cons q)
/-- The two ways to ask it. -/
theorem FP {Q E : List Pr} (hn : Q.Nodup) (hne : ∀ p, p ∈ Q → p.1 ≠ p.2) :
  (GoodE E ∧ (∀ q, q ∈ Q → q ∈ E) ∧ E.length = Q.length) ↔ (E.length = Q.length ∧ ∀ q, q ∈ Q → E.count q = 1) := by
 constructor
 ·rintro ⟨⟨h1, _⟩, h3, h4⟩
  exact ⟨h4, fun q hq => h1.count (a := q) ▸ (by simp [h3 q hq])⟩
 rintro ⟨h1, h2⟩
 have hs : ∀ q, q ∈ Q → q ∈ E := fun q hq => List.count_pos_iff.1 (by rw [h2 q hq]; omega)
 have hp := GE hn hs h1
 exact ⟨⟨hp.nodup_iff.2 hn, fun p hpm => hne p (hp.mem_iff.1 hpm)⟩, hs, h1⟩
theorem DO (es : List Pr) (n : Nat) : (brV es n).Nodup := by
 unfold brV List.Nodup
 rw [List.pairwise_map]
 exact (List.Nodup.sublist List.filter_sublist List.nodup_range).imp fun h => by omega
theorem GH {α : Type} (p q : α → Bool) (hq : ∀ x, q x = !p x) (l : List α) : (l.filter p ++ l.filter q).Perm l := by
 have : q = fun x => !p x := funext hq
 rw [this]
 exact List.filter_append_perm p l
theorem Fd (E : List Pr) (B : List Int) : (sidesOf E B).Perm B := GH _ _ (fun x => by by_cases h : srt (B.headD 0) x ∈ E <;> simp [h]) B
theorem Dx (E : List Pr) (B : List Int) : (sidesR E B).Perm B := by
 refine GH _ _ (fun x => ?_) B
 by_cases h : srt (B.headD 0) x ∈ E <;> by_cases h2 : x = B.headD 0 <;> simp [h, h2]
theorem Hn {E : List Pr} (hg : GoodE E) (B : List Int) : sidesR E B = sidesOf E B := by
 have hno : srt (B.headD 0) (B.headD 0) ∉ E := fun h => hg.2 _ h (by unfold srt; simp only; omega)
 unfold sidesR sidesOf
 generalize B.headD 0 = b at hno ⊢
 have e1 : (B.filter fun v => decide (v = b ∨ srt (b) v ∉ E)) = B.filter fun v => decide (srt (b) v ∉ E) := by
  apply List.filter_congr
  intro v _
  by_cases h : v = b
  ·subst h; simp [hno]
  simp [h]
 have e2 : (B.filter fun v => decide (v ≠ b ∧ srt (b) v ∈ E)) = B.filter fun v => decide (srt (b) v ∈ E) := by
  apply List.filter_congr
  intro v _
  by_cases h : v = b
  ·subst h; simp [hno]
  simp [h]
 rw [e1, e2]
/-- How the program asks. -/
def KP (E : List Pr) (B : List Int) (d : Nat) : Prop :=
 GoodE E ∧ ((B.length = 5 ∧ d = 4 ∧ (∀ q, q ∈ pairsOf B → q ∈ E) ∧ E.length = 10) ∨ (B.length = 6 ∧ d = 3 ∧ (∀ q, q ∈ crossOf (sidesOf E B) → q ∈ E) ∧ E.length = 9))
/-- How the reference asks. -/
def KR (E : List Pr) (B : List Int) (d : Nat) : Prop :=
 (B.length = 5 ∧ d = 4 ∧ E.length = 10 ∧ ∀ q, q ∈ pairsOf B → E.count q = 1) ∨ (B.length = 6 ∧ d = 3 ∧ E.length = 9 ∧ ∀ q, q ∈ crossOf (sidesR E B) → E.count q = 1)
theorem HR {E : List Pr} {B : List Int} {d : Nat} (hB : B.Nodup) : KP E B d ↔ KR E B d := by
 unfold KP KR
 constructor
 ·rintro ⟨hg, ⟨h1, h2, h3, h4⟩ | ⟨h1, h2, h3, h4⟩⟩
  ·obtain ⟨a, b, c, d', e, rfl⟩ := Re h1
   obtain ⟨k1, k2, k3⟩ := Pj hB
   have := (FP k1 k3).1 ⟨hg, h3, by rw [h4, k2]⟩
   exact .inl ⟨h1, h2, h4, this.2⟩
  have hp := Fd E B
  rw [← Hn hg] at hp h3
  obtain ⟨a, b, c, d', e, f, hs⟩ := Rc (hp.length_eq.trans h1)
  have hn : (sidesR E B).Nodup := hp.nodup_iff.2 hB
  rw [hs] at hn h3 ⊢
  obtain ⟨k1, k2, k3⟩ := Nh hn
  have := (FP k1 k3).1 ⟨hg, h3, by rw [h4, k2]⟩
  exact .inr ⟨h1, h2, h4, this.2⟩
 rintro (⟨h1, h2, h3, h4⟩ | ⟨h1, h2, h3, h4⟩)
 ·obtain ⟨a, b, c, d', e, rfl⟩ := Re h1
  obtain ⟨k1, k2, k3⟩ := Pj hB
  have := (FP k1 k3).2 ⟨by rw [h3, k2], h4⟩
  exact ⟨this.1, .inl ⟨h1, h2, this.2.1, h3⟩⟩
 have hp := Dx E B
 obtain ⟨a, b, c, d', e, f, hs⟩ := Rc (hp.length_eq.trans h1)
 have hn : (sidesR E B).Nodup := hp.nodup_iff.2 hB
 have h4' := h4
 rw [hs] at hn h4'
 obtain ⟨k1, k2, k3⟩ := Nh hn
 have := (FP k1 k3).2 ⟨by rw [h3, k2], h4'⟩
 refine ⟨this.1, .inr ⟨h1, h2, ?_, h3⟩⟩
 rw [← Hn this.1, hs]
 exact this.2.1
/-- A subdivision of K5 or K3,3, but for vertices without edges. -/
def KuraOk (n : Nat) (es : List Pr) : Prop := ∃ d, (∀ v, v ∈ brV es n → degV es v = d) ∧ KP (endsU es es.length) (brV es n) d
end Go.Fl

namespace Go.Fl
open Go Go.Proofs
theorem Gj {es : List Pr} {h : Int} : nxtH es h = if ((outs es (toV es h))[0]?).getD (-1) = tw h then ((outs es (toV es h))[1]?).getD (-1) else ((outs es (toV es h))[0]?).getD (-1) := rfl
structure WyI where
 t : Nat
 v : Value
theorem Ga {N : Int} {es : List Pr} {M : AdjM} {p : Option Addr} {w : World} {h : Int} (hA : AV w N es M p) (hh : VH es h) :
  Calls Tryz.prog 180 #[.pointer p, .int .i64 h] w (Ret w [] fun r L => L = [slc r 3 1 (ints (wayOf es h))]) := by
 have hV := hA.vld
 have hfew := hV.few
 have hst := Bz hV hh
 refine Ao (args := [_, _]) (L := []) Tryz.func180 rfl Tryz.ntmps180 rfl (Own.start _ _) ?_
 refine Zs ?_
 refine Za ?_
 refine Zx <| Zs ?_
 iterate 2 refine Zm ?_
 refine Seq.rel0 rfl rfl (Ar FT rfl rfl rfl (fun w' hw => Cf (hA.keep hw) h)) ?_
 rintro _ rfl
 refine Za ?_
 refine Zx <| Zs ?_
 refine Zm ?_
 refine Zw (AP (cs := #[_]) rfl rfl TT AQ B0 rfl (by decide) (by decide) rfl rfl) fun g13 => ?_
 refine Za ?_
 refine Zx <| DC.seq <| Zs ?_
 iterate 2 refine Zm ?_
 refine Seq.rel0 rfl rfl (Ar H5 rfl rfl rfl (fun w' hw => Du (hA.keep hw) h)) ?_
 rintro _ rfl
 refine Za ?_
 refine Zx <| DC.block ?_
 refine DC.own (M := [slc (.slice (some ⟨g13, 0, none⟩) 1 1) 3 1 (ints (wayL es h 0))]) (fun w hw => BZ (len := 1) (cap := 1) rfl (by decide) (by omega) (by omega) rfl rfl hw) ?_
 refine DC.loop (ι := WyI) (fun j => Way es h j.t)
  (fun j => [(0, .pointer p), (1, .int .i64 (wI es h j.t)), (5, .int .i64 (fromV es h)), (6, j.v), (7, .int .i64 (toV es (wI es h j.t)))])
  (fun j => [slc j.v 3 1 (ints (wayL es h j.t))]) (fun j => es.length * 2 - j.t) ⟨0, _⟩ ⟨hh, fun i hi => absurd hi (TS _)⟩ ⟨rfl, rfl, rfl, rfl, rfl, trivial⟩ (.cons 0 rfl .nil) ?_
 rintro ⟨t, v⟩ hw
 dsimp only at hw ⊢
 have hlt := hw.lt hV
 have hvh := hw.all hV t (Nat.le_refl _)
 obtain ⟨hv0, hv1⟩ := hvh
 refine DC.seq <| Zs ?_
 iterate 2 refine Zm ?_
 refine Seq.rel0 rfl rfl (Ar Ly rfl rfl rfl (fun w' hw => CO (hA.keep hw) _)) ?_
 rintro _ rfl
 refine Zo (AN rfl rfl rfl) ?_
 refine Zm ?_
 refine Seq.split 21 rfl (fun k4_4 => ?_) (fun k4_4 => ?_)
 ·refine Zm ?_
  refine Zm ?_
  refine Zo (BK rfl rfl rfl) ?_
  refine Zt ?_
  refine Zx ?_
  refine Zd (fun c4 => ?_) fun c4 => ?_
  ·have hc : contH es (fromV es h) (wI es h t) := ⟨by simp at k4_4; unfold degV; omega, by simpa using c4⟩
   have hw1 : Way es h (t + 1) := ⟨hh, fun i hi => by
    rcases TE.1 hi with h1 | rfl
    ·exact hw.cont i h1
    exact hc⟩
   have hlt1 := hw1.lt hV
   have hvh := hw.all hV t (Nat.le_refl _)
   obtain ⟨s1, s2, s3, s4, s5⟩ := Cs hV hvh hc.1
   refine DC.skip <| Fin.then <| DC.seq <| DC.block <| Zs ?_
   refine Zm ?_
   refine Zo (HE rfl rfl rfl (by omega)) ?_
   refine Za ?_
   refine Zx <| Zs ?_
   iterate 2 refine Zm ?_
   refine Seq.rel0 rfl rfl (Ar SM rfl rfl rfl (fun w' hw => LS (hA.keep hw) _)) ?_
   rintro _ rfl
   refine Za ?_
   refine Zx <| DC.seq <| Zs ?_
   iterate 2 refine Zm ?_
   refine Zo (AN rfl rfl rfl) ?_
   refine Zx ?_
   refine Zd (fun c8 => ?_) fun c8 => ?_
   ·refine DC.region ?_
    iterate 2 refine Zm ?_
    refine Seq.rel0 rfl rfl (Ar SL rfl rfl rfl (fun w' hw => LV (hA.keep hw) _)) ?_
    rintro _ ⟨r, rfl, hr, _⟩
    have hout0 : (outs es (toV es (wI es h t)))[0]? = some (tw (wI es h t)) := by
     have h1 : ((outs es (toV es (wI es h t)))[0]?).getD (-1) = tw (wI es h t) := by
      unfold tw
      simpa using c8
     cases hq : (outs es (toV es (wI es h t)))[0]? with
     | none => rw [hq] at h1; have := hvh.tw.1; simp at h1; omega
     | some x => rw [hq] at h1; simpa using h1
    have hrr : r = wI es h (t + 1) := by
     show r = nxtH es (wI es h t)
     rw [Gj, hout0]
     simp only [Option.getD_some, if_true]
     exact hr _ 0 (by rw [hout0]; rfl)
    subst hrr
    refine Za ?_
    refine Zx <| DC.region ?_
    iterate 2 refine Zm ?_
    refine Zw (AP (cs := #[_]) rfl rfl TT AQ B0 rfl (by decide) (by decide) rfl rfl) fun g42 => ?_
    refine Seq.gen rfl rfl (AK rfl rfl rfl TT AQ DE B0 rfl (by decide) (by decide) (fun w hw => hw.pick (.cons 1 rfl .nil)) (.inl ⟨_, _, rfl, Ak rfl⟩) rfl (Bm [_] []) (by simp [CF]; omega)) ?_
    rintro v43 _ rfl
    refine Za ?_
    refine Seq.nil <| Fin.inBlock <| Fin.then <| DC.region ?_
    iterate 2 refine Zm ?_
    try (
     have hout0 : ((outs es (toV es (wI es h t)))[0]?).getD (-1) = wI es h (t + 1) := by
      show _ = nxtH es (wI es h t)
      rw [Gj, if_neg (by unfold tw; simpa using c8)]
     rw [hout0])
    refine Seq.rel0 rfl rfl (Ar H5 rfl rfl rfl (fun w' hw => Du (hA.keep hw) _)) ?_
    rintro _ rfl
    refine Za ?_
    refine Seq.nil ?_
    refine Ag ⟨t + 1, v43⟩ (by dsimp only; omega) hw1 ⟨rfl, rfl, rfl, rfl, rfl, trivial⟩ (.cons' 0 rfl (by dsimp only; rw [Gb, AU]; rfl) .nil)
   refine DC.skip <| Fin.then <| DC.region ?_
   iterate 2 refine Zm ?_
   refine Zw (AP (cs := #[_]) rfl rfl TT AQ B0 rfl (by decide) (by decide) rfl rfl) fun g42 => ?_
   refine Seq.gen rfl rfl (AK rfl rfl rfl TT AQ DE B0 rfl (by decide) (by decide) (fun w hw => hw.pick (.cons 1 rfl .nil)) (.inl ⟨_, _, rfl, Ak rfl⟩) rfl (Bm [_] []) (by simp [CF]; omega)) ?_
   rintro v43 _ rfl
   refine Za ?_
   refine Seq.nil <| Fin.inBlock <| Fin.then <| DC.region ?_
   iterate 2 refine Zm ?_
   try (
    have hout0 : ((outs es (toV es (wI es h t)))[0]?).getD (-1) = wI es h (t + 1) := by
     show _ = nxtH es (wI es h t)
     rw [Gj, if_neg (by unfold tw; simpa using c8)]
    rw [hout0])
   refine Seq.rel0 rfl rfl (Ar H5 rfl rfl rfl (fun w' hw => Du (hA.keep hw) _)) ?_
   rintro _ rfl
   refine Za ?_
   refine Seq.nil ?_
   refine Ag ⟨t + 1, v43⟩ (by dsimp only; omega) hw1 ⟨rfl, rfl, rfl, rfl, rfl, trivial⟩ (.cons' 0 rfl (by dsimp only; rw [Gb, AU]; rfl) .nil)
  refine DC.exit <| Ad <| Ad <| Ah <| Fin.then <| Zs ?_
  refine Zm ?_
  refine Za ?_
  refine Zx <| DC.ret ?_
  have hT : wayT es h = t := GS ⟨hw, fun ⟨h1, h2⟩ => by first | (simp at c4; exact h2 c4) | (unfold degV at h1; simp at k4_4; omega)⟩
  refine Fin.weak (E' := [(4, _)]) (L' := [slc v 3 1 (ints (wayL es h t))]) ⟨rfl, trivial⟩ (.cons 0 rfl .nil) ?_
  refine Zh ?_
  unfold wayOf
  rw [hT]
 iterate 3 refine Zk ?_
 refine Zg ?_
 refine Zx ?_
 refine AT rfl ?_
 refine DC.exit <| Ad <| Ad <| Ah <| Fin.then <| Zs ?_
 refine Zm ?_
 refine Za ?_
 refine Zx <| DC.ret ?_
 have hT : wayT es h = t := GS ⟨hw, fun ⟨h1, h2⟩ => by first | (simp at c4; exact h2 c4) | (unfold degV at h1; simp at k4_4; omega)⟩
 refine Fin.weak (E' := [(4, _)]) (L' := [slc v 3 1 (ints (wayL es h t))]) ⟨rfl, trivial⟩ (.cons 0 rfl .nil) ?_
 refine Zh ?_
 unfold wayOf
 rw [hT]
structure AbI where
 i : Nat
 zs : List Int
theorem DF {w : World} {v : Value} {xs : List Int} (hv : SlB w v xs) (hl : xs.length ≤ 17592186044416) (hx : ∀ x, x ∈ xs → 0 ≤ x ∧ x ≤ 9223372036854775807) :
  Calls Tryz.prog 183 #[v] w (Ret w [] fun r L => L = [slc r 3 1 (ints (aboutL xs))]) := by
 refine Ao (args := [_]) (L := []) Tryz.func183 rfl Tryz.ntmps183 rfl (Own.start _ _) ?_
 refine Zs ?_
 refine Za ?_
 refine Zx <| Zs ?_
 refine Zm ?_
 refine Seq.rel rfl rfl (Ar RS rfl rfl rfl (fun w' hw => EN (hv.keep0 hw) hl)) ?_
 rintro vc _ rfl
 refine Za ?_
 refine Zx <| Zs ?_
 refine Zm ?_
 refine Seq.gen rfl rfl (Bh SD rfl rfl rfl (Lc := [slc vc 3 1 (ints xs)]) (F := []) (.refl _) (fun k hk => hk) (fun w' hw => IS hw.self)) ?_
 rintro v8 _ ⟨_, rfl, rfl⟩
 refine Zx <| DC.seq <| DC.seq ?_
 have hrl : xs.reverse.length = xs.length := List.length_reverse
 refine DC.slcs (i := 0) (xs := xs.reverse) rfl (by omega) ?_
 rintro A c rfl hA
 rw [hrl]
 refine DC.region ?_
 refine Zm ?_
 refine Zn TT ?_
 refine Zm ?_
 refine Zx <| DC.block ?_
 refine DC.loop (ι := AbI) (fun j => j.i ≤ xs.length ∧ j.zs.length = xs.length ∧ ∀ (q : Nat), j.zs[q]? = if q < j.i then (xs.reverse[q]?).map tw else xs.reverse[q]?)
  (fun j => [(3, .slice A xs.length c), (10, .int .i64 xs.length), (11, .int .i64 j.i)])
  (fun j => [slc (.slice A xs.length c) 3 1 (ints j.zs)]) (fun j => xs.length - j.i) ⟨0, xs.reverse⟩ ⟨Nat.zero_le _, hrl, fun q => by rw [if_neg (TS _)]⟩ ⟨rfl, rfl, rfl, trivial⟩ (.cons 0 rfl .nil) ?_
 rintro ⟨i, zs⟩ ⟨hi, hz, hq⟩
 dsimp only at hi hz hq ⊢
 refine Zs ?_
 refine Zc ?_
 refine Zx <| DC.seq ?_
 refine Zd (fun c4 => ?_) fun c4 => ?_
 ·have hlt : i < xs.length := by simpa using c4
  obtain ⟨ad, rfl⟩ := hA (fun e => by rw [e] at hrl; simp at hrl; omega)
  obtain ⟨y, hy⟩ : ∃ y, xs.reverse[i]? = some y := ⟨_, Tz (by omega)⟩
  have hzy : zs[i]? = some y := by rw [hq, if_neg (Nat.lt_irrefl _)]; exact hy
  obtain ⟨hy0, hy1⟩ := hx y (List.mem_reverse.1 (TD hy))
  refine DC.skip <| Fin.then <| DC.seq <| DC.block <| Zs ?_
  refine Zm ?_
  refine Za ?_
  refine Zx <| DC.region ?_
  iterate 2 refine Zm ?_
  refine Zo (Aj (ad' := ad.add i) rfl rfl rfl TT AQ (by omega) (by omega) rfl) ?_
  refine Zu (Ai rfl rfl AJ (BU (i := 0) rfl hzy (by omega))) ?_
  refine Zo (HE rfl rfl rfl (by omega)) ?_
  refine Zo (Aj (ad' := ad.add i) rfl rfl rfl TT AQ (by omega) (by omega) rfl) ?_
  refine Zy (L9 (i := 0) (j := i) rfl rfl rfl rfl AQ (by omega)) ?_
  refine Seq.nil <| Fin.inBlock <| Fin.then <| DC.region ?_
  refine Zp ?_
  refine Zm ?_
  refine Seq.nil ?_
  refine Ag ⟨i + 1, zs.set i (tw y)⟩ (by dsimp only; omega) ⟨by dsimp only; omega, by simp [hz], fun q => ?_⟩ ⟨rfl, rfl, rfl, trivial⟩ (.cons 0 rfl .nil)
  dsimp only
  rw [List.getElem?_set]
  by_cases hqi : i = q
  ·subst hqi
   rw [if_pos rfl, if_pos (by omega), if_pos (by omega), hy]; rfl
  rw [if_neg hqi, hq]
  by_cases h1 : q < i
  ·rw [if_pos h1, if_pos (by omega)]
  rw [if_neg h1, if_neg (by omega)]
 refine DC.exit <| Ad <| Ad <| Ah <| Fin.then <| Zs ?_
 refine Zm ?_
 refine Za ?_
 refine Zx <| DC.ret ?_
 have hie : i = xs.length := by simp at c4; omega
 subst hie
 have hze : zs = aboutL xs := by
  apply List.ext_getElem?
  intro q
  rw [hq]
  unfold aboutL
  rw [List.getElem?_map]
  by_cases h1 : q < xs.length
  ·rw [if_pos h1]
  rw [if_neg h1, TQ (by omega)]; rfl
 refine Fin.weak (E' := [(2, _)]) (L' := [slc (.slice A xs.length c) 3 1 (ints zs)]) ⟨rfl, trivial⟩ (.cons 0 rfl .nil) ?_
 refine Zh ?_
 rw [hze]
/-- How the ends of a chain as it is written come of its ends. -/
def WrtR (a b : Int) (c : List Int) : Prop := ∃ p q, c[0]? = some p ∧ c[c.length - 1]? = some q ∧ (a = b → p = q) ∧ (a ≠ b → p = min a b ∧ q = max a b)
structure WrI where
 vl : Value
 ad : Addr
 l : List Int
 c : Nat
 L : List Chunk
 a : Int
 b : Int
structure WrE (es : List Pr) (w : World) (n : Nat) (j : WrI) : Prop where
 val : j.vl = .slice (some j.ad) j.l.length j.c
 rds : ∀ w', Own w [] w' j.L → Rd w' (some j.ad) (ints j.l) ∧ SlB w' j.vl j.l
 len : j.l.length = n
 all : AllH es j.l
 hd : ∃ x, j.l[0]? = some x ∧ fromV es x = j.a
 la : ∃ y, j.l[j.l.length - 1]? = some y ∧ toV es y = j.b
theorem G6 {w : World} {L L' : List Chunk} {vl : Value} {ad : Addr} {l : List Int} {j : Nat} {x : Int} (h : ∀ w', Own w [] w' L' → Rd w' (some ad) (ints l) ∧ SlB w' vl l) (hp : ∀ w', Own w [] w' L → Own w [] w' L') (hj : l[j]? = some x) :
  Has w [] L (ad.add j) (.int .i64 x) := by
 intro w' hw
 obtain ⟨ad', e, hc⟩ := (h w' (hp w' hw)).1.int hj
 cases e; exact hc
theorem JA {w : World} {ad : Addr} {l : List Int} {n c t : Nat} (hf : l.length ≤ 17592186044416) :
  ∀ w', Own w [] w' [slc (.slice (some ad) n c) t 1 (ints l)] → Rd w' (some ad) (ints l) ∧ SlB w' (.slice (some ad) n c) l := by
 intro w' hw
 refine ⟨?_, Fw hw⟩
 obtain ⟨A, cap, e, hr, _⟩ := Ck hw 0 rfl hf
 cases e; exact hr
theorem Im {es : List Pr} {l : List Int} {x y : Int} (ha : AllH es l) (hx : l[0]? = some x) (hy : l[l.length - 1]? = some y) :
  (∃ z, (aboutL l)[0]? = some z ∧ fromV es z = toV es y) ∧ ∃ z, (aboutL l)[(aboutL l).length - 1]? = some z ∧ toV es z = fromV es x := by
 have hp := (TA.1 hx).1
 refine ⟨⟨tw y, ?_, CL (ha _ (TD hy))⟩, ⟨tw x, ?_, IM (ha _ (TD hx))⟩⟩
 ·rw [Di hp, Nat.sub_zero, hy]; rfl
 rw [BC, Di (by omega), show l.length - 1 - (l.length - 1) = 0 by omega, hx]; rfl
structure WrJ where
 i : Nat
 m : Nat
structure WrK where
 i : Nat
 v : Value
theorem Ir {N : Int} {es : List Pr} {M : AdjM} {p : Option Addr} {w : World} {v : Value} {l : List Int} (hA : AV w N es M p) (hv : SlB w v l) (hne : l ≠ []) (hall : AllH es l) (hlk : Link es l) (hl : l.length ≤ 1000000000) :
  Calls Tryz.prog 161 #[.pointer p, v] w (Ret w [] fun r L => ∃ c, L = [slc r 3 1 (ints c)] ∧ c.length = l.length + 1 ∧
   ∀ x y, l[0]? = some x → l[l.length - 1]? = some y → WrtR (fromV es x) (toV es y) c) := by
 have hV := hA.vld
 have hfew := hV.few
 have hv' := hv
 obtain ⟨g, off, cap, rfl, hlc, hcm, hcell⟩ := hv.resolve_left (fun ⟨_, _, _, h⟩ => hne h)
 have hpos : 0 < l.length := List.length_pos_iff.2 hne
 obtain ⟨x0, hx0⟩ : ∃ x, l[0]? = some x := ⟨_, Tz hpos⟩
 obtain ⟨y0, hy0⟩ : ∃ y, l[l.length - 1]? = some y := ⟨_, Tz (by omega)⟩
 have hcL : ∀ {j : Nat} {x : Int}, l[j]? = some x → w.cell? ((⟨g, off, none⟩ : Addr).add j) = some (.int .i64 x) := fun hj => by rw [Bj]; exact hcell _ _ hj
 refine Ao (args := [_, _]) (L := []) Tryz.func161 rfl Tryz.ntmps161 rfl (Own.start _ _) ?_
 refine Zs ?_
 refine Za ?_
 refine Zx <| DC.seq ?_
 refine AF (cl := [.q, .q, .q, .v, .r, .q, .q, .q, .q, .q, .q, .v, .r, .q, .q]) (A := [0, 0, 2, 6, 15, 0, 0, 0, 128, 384, 960, 1984, 4095, 8191, 16383]) (order := [0, 1, 2, 3, 4, 5, 6, 7, 8, 9, 10, 11, 12, 13, 14]) [] mixed (by kernel_rfl) (fun w hw => hw.pick .nil) ?_
 iterate 2 refine Ym ?_
 refine Yo rfl (Aj (ad' := (⟨g, off, none⟩ : Addr).add 0) rfl rfl rfl TT AQ (by omega) (by omega) rfl) ?_
 refine Am rfl rfl rfl rfl (Ai rfl rfl AJ (Aw (hcL hx0))) ?_
 refine Flow.rel0 rfl rfl rfl rfl (Ar FT rfl rfl rfl (fun w' hw => Cf (hA.keep hw) _)) ?_
 rintro _ rfl
 iterate 3 refine Ym ?_
 refine Yo rfl (CC rfl rfl TT) ?_
 refine Yo rfl (Bv rfl rfl rfl (by omega)) ?_
 refine Yo rfl (Aj (ad' := (⟨g, off, none⟩ : Addr).add (l.length - 1)) rfl rfl rfl TT AQ (by omega) (by omega) (by rw [show ((l.length : Int) - 1).toNat = l.length - 1 by omega])) ?_
 refine Am rfl rfl rfl rfl (Ai rfl rfl AJ (Aw (hcL hy0))) ?_
 refine Flow.rel0 rfl rfl rfl rfl (Ar H5 rfl rfl rfl (fun w' hw => Du (hA.keep hw) _)) ?_
 rintro _ rfl
 refine Yo rfl (AR rfl rfl) ?_
 refine Yo rfl (AR rfl rfl) ?_
 refine Flow.end rfl ?_
 simp only [zq, zr]
 refine Fin.then ?_
 refine DC.cut (ι := WrI) (fun j => WrE es w l.length j ∧ (fromV es x0 = toV es y0 → j.a = j.b) ∧ (fromV es x0 ≠ toV es y0 → j.a = fromV es x0 ∧ j.b = toV es y0))
  (fun j => [(0, .pointer p), (1, j.vl), (5, .int .i64 j.a), (6, .int .i64 j.b)]) (fun j => j.L) ?first12 ?rest12
 case first12 =>
  refine Zs ?_
  iterate 2 refine Zm ?_
  refine Zo (AN rfl rfl rfl) ?_
  refine Zm ?_
  refine Seq.split 29 rfl (fun k2_3 => ?_) (fun k2_3 => ?_)
  ·refine Zm ?_
   refine Zm ?_
   refine Seq.rel0 rfl rfl (Ar Ly rfl rfl rfl (fun w' hw => CO (hA.keep hw) _)) ?_
   rintro _ rfl
   refine Zo (AN rfl rfl rfl) ?_
   refine Zt ?_
   refine Zx ?_
   refine Zd (fun c2 => ?_) fun c2 => ?_
   ·refine Zs ?_
    refine Za ?_
    refine Zx <| DC.seq <| Zs ?_
    refine Zm ?_
    refine Zn TT ?_
    refine Zm ?_
    refine Zx <| DC.block ?_
    refine DC.loop (ι := WrJ) (fun j => j.i ≤ l.length ∧ j.m < l.length) (fun j => [(0, .pointer p), (1, .slice (some ⟨g, off, none⟩) l.length cap), (7, .int .i64 j.m), (35, .slice (some ⟨g, off, none⟩) l.length cap), (36, .int .i64 l.length), (37, .int .i64 j.i)])
     (fun _ => []) (fun j => l.length - j.i) ⟨0, 0⟩ ⟨Nat.zero_le _, hpos⟩ ⟨rfl, rfl, rfl, rfl, rfl, rfl, trivial⟩ .nil ?_
    rintro ⟨i, m⟩ ⟨hi, hm⟩
    dsimp only at hi hm ⊢
    refine Zs ?_
    refine Zc ?_
    refine Zx <| DC.seq ?_
    refine Zd (fun c5 => ?_) fun c5 => ?_
    ·have hlt : i < l.length := by simpa using c5
     obtain ⟨x, hx⟩ : ∃ x, l[i]? = some x := ⟨_, Tz hlt⟩
     obtain ⟨y, hy⟩ : ∃ y, l[m]? = some y := ⟨_, Tz hm⟩
     refine DC.skip <| Fin.then <| DC.seq <| DC.block <| Zs ?_
     refine Zm ?_
     refine Zo (Aj (ad' := (⟨g, off, none⟩ : Addr).add i) rfl rfl rfl TT AQ (by omega) (by omega) rfl) ?_
     refine Zu (Ai rfl rfl AJ (Aw (hcL hx))) ?_
     iterate 2 refine Za ?_
     refine Zx <| DC.seq ?_
     refine AF (cl := [.q, .q, .r, .q, .q, .q, .q, .v, .r, .q]) (A := [0, 0, 3, 0, 0, 0, 48, 112, 255, 511]) (order := [0, 1, 2, 3, 4, 5, 6, 7, 8, 9]) [] mixed (by kernel_rfl) (fun w hw => hw.pick .nil) ?_
     iterate 2 refine Ym ?_
     refine Flow.rel0 rfl rfl rfl rfl (Ar FT rfl rfl rfl (fun w' hw => Cf (hA.keep hw) _)) ?_
     rintro _ rfl
     iterate 3 refine Ym ?_
     refine Yo rfl (Aj (ad' := (⟨g, off, none⟩ : Addr).add m) rfl rfl rfl TT AQ (by omega) (by omega) rfl) ?_
     refine Am rfl rfl rfl rfl (Ai rfl rfl AJ (Aw (hcL hy))) ?_
     refine Flow.rel0 rfl rfl rfl rfl (Ar FT rfl rfl rfl (fun w' hw => Cf (hA.keep hw) _)) ?_
     rintro _ rfl
     refine Yo rfl (E7 rfl rfl rfl) ?_
     refine Flow.end rfl ?_
     simp only [zq, zr]
     refine Fin.then ?_
     refine Zd (fun c7 => ?_) fun c7 => ?_
     ·refine DC.region ?_
      refine Zm ?_
      refine Za ?_
      refine Seq.nil <| Fin.inBlock <| Fin.then <| DC.region ?_
      refine Zp ?_
      refine Zm ?_
      refine Seq.nil ?_
      refine Ag ⟨i + 1, i⟩ (by dsimp only; omega) ⟨by dsimp only; omega, by dsimp only; omega⟩ ⟨rfl, rfl, rfl, rfl, rfl, rfl, trivial⟩ .nil
     refine DC.skip <| Fin.inBlock <| Fin.then <| DC.region ?_
     refine Zp ?_
     refine Zm ?_
     refine Seq.nil ?_
     refine Ag ⟨i + 1, m⟩ (by dsimp only; omega) ⟨by dsimp only; omega, by dsimp only; omega⟩ ⟨rfl, rfl, rfl, rfl, rfl, rfl, trivial⟩ .nil
    refine DC.exit <| Ad <| Ad <| Ah <| Fin.then <| DC.seq ?_
    refine AF (cl := [.q, .q, .q, .r, .q, .q, .q, .g, .q]) (A := [0, 0, 3, 7, 0, 0, 48, 127, 255]) (order := [0, 1, 2, 3, 4, 5, 6, 7, 8]) [] mixed (by kernel_rfl) (fun w hw => hw.pick .nil) ?_
    iterate 2 refine Ym ?_
    refine Yo rfl (D1 (lo := m) rfl rfl rfl TT AQ (by omega)) ?_
    refine E3 rfl rfl rfl rfl (Ar RS rfl rfl rfl (fun w' hw => EN ((hv'.keep0 hw).drop (by omega)) (by rw [List.length_drop]; omega))) ?_
    rintro vc _ rfl
    iterate 2 refine Ym ?_
    refine Yo rfl (Fi (hi := m) rfl rfl rfl TT AQ (by omega)) ?_
    refine DS (V := _) rfl rfl rfl rfl rfl (AK rfl rfl rfl TT AQ DE B0 rfl (by decide) (by decide) (fun w hw => hw.pick (.cons 0 rfl .nil)) (Jx (vs := ints (l.take m)) (k := m) (m := 1) (A := some ⟨g, off, none⟩) (fun j u hj => ⟨_, rfl, by
     unfold ints at hj
     rw [List.getElem?_map, Option.map_eq_some_iff] at hj
     obtain ⟨x, hx, rfl⟩ := hj
     rw [List.getElem?_take] at hx
     split at hx
     ·exact hcL hx
     cases hx⟩) (by simp; omega) (by simp) (fun h => by cases h)) (by simp; omega) (Bm (l.take m) []) (by simp; omega)) (fun v L' hC w hw => hw.pick (.nil)) ?_
    rintro v61 _ rfl
    refine Yo rfl (AR rfl rfl) ?_
    refine Flow.end rfl ?_
    simp only [zq, zr]
    refine Fin.then <| DC.seq ?_
    have hie : i = l.length := by simp at c5; omega
    rw [← AU]
    have hl1 : (l.drop m ++ l.take m).length = l.length := by rw [List.length_append, List.length_drop, List.length_take]; omega
    refine DC.slcs (i := 0) (xs := l.drop m ++ l.take m) rfl (by omega) ?_
    rintro A1 c1 rfl hA1
    obtain ⟨ad1, rfl⟩ := hA1 (fun e => by rw [e] at hl1; simp at hl1; omega)
    obtain ⟨z, hz⟩ : ∃ z, l[m]? = some z := ⟨_, Tz hm⟩
    have hz0 : (l.drop m ++ l.take m)[0]? = some z := by rw [TK (by rw [List.length_drop]; omega), List.getElem?_drop]; exact hz
    refine DC.region ?_
    iterate 2 refine Zm ?_
    refine Zo (Aj (ad' := ad1.add 0) rfl rfl rfl TT AQ (by omega) (by omega) rfl) ?_
    refine Zu (Ai rfl rfl AJ (BU (i := 0) rfl hz0 (by omega))) ?_
    refine Seq.rel0 rfl rfl (Ar FT rfl rfl rfl (fun w' hw => Cf (hA.keep hw) _)) ?_
    rintro _ rfl
    refine Za ?_
    refine Zx <| DC.region ?_
    refine Zm ?_
    refine Za ?_
    refine Seq.nil ?_
    have heq : fromV es x0 = toV es y0 := by first | simpa using k2_3 | (simp at k2_3; exact k2_3)
    refine AG ⟨.slice (some ad1) (l.drop m ++ l.take m).length c1, ad1, l.drop m ++ l.take m, c1, [slc (.slice (some ad1) (l.drop m ++ l.take m).length c1) 3 1 (ints (l.drop m ++ l.take m))], fromV es z, fromV es z⟩
     ⟨⟨rfl, JA (by omega), hl1, fun x hx => ?_, ⟨z, hz0, rfl⟩, ?_⟩, fun _ => rfl, fun h => absurd heq h⟩ ⟨rfl, rfl, rfl, rfl, trivial⟩ (.cons 0 rfl .nil)
    ·rcases List.mem_append.1 hx with hx | hx
     ·exact hall x (List.mem_of_mem_drop hx)
     exact hall x (List.mem_of_mem_take hx)
    dsimp only
    rw [hl1]
    by_cases h0 : m = 0
    ·subst h0
     have hzx : z = x0 := by rw [hz] at hx0; exact Option.some.inj hx0
     exact ⟨y0, by simpa using hy0, by rw [hzx]; exact heq.symm⟩
    obtain ⟨y, hy⟩ : ∃ y, l[m - 1]? = some y := ⟨_, Tz (by omega)⟩
    refine ⟨y, ?_, (hlk (m - 1) y z hy (by rw [← hz]; congr 1; omega)).symm⟩
    rw [TL (by rw [List.length_drop]; omega), List.length_drop, List.getElem?_take, if_pos (by omega), ← hy]
    congr 1; omega
   refine DC.skip ?_
   refine AG ⟨.slice (some ⟨g, off, none⟩) l.length cap, ⟨g, off, none⟩, l, cap, [], fromV es x0, toV es y0⟩
    ⟨⟨rfl, fun w' hw => ⟨?_, hv'.keep0 hw⟩, rfl, hall, ⟨x0, hx0, rfl⟩, ⟨y0, hy0, rfl⟩⟩, fun h => h, fun _ => ⟨rfl, rfl⟩⟩ ⟨rfl, rfl, rfl, rfl, trivial⟩ .nil
   obtain ⟨A, c, e, hr⟩ := (hv'.keep0 hw).slv (by omega)
   cases e; exact hr
  iterate 4 refine Zk ?_
  refine Zg ?_
  refine Zx ?_
  refine AT rfl ?_
  refine DC.skip ?_
  refine AG ⟨.slice (some ⟨g, off, none⟩) l.length cap, ⟨g, off, none⟩, l, cap, [], fromV es x0, toV es y0⟩
   ⟨⟨rfl, fun w' hw => ⟨?_, hv'.keep0 hw⟩, rfl, hall, ⟨x0, hx0, rfl⟩, ⟨y0, hy0, rfl⟩⟩, fun h => h, fun _ => ⟨rfl, rfl⟩⟩ ⟨rfl, rfl, rfl, rfl, trivial⟩ .nil
  obtain ⟨A, c, e, hr⟩ := (hv'.keep0 hw).slv (by omega)
  cases e; exact hr
 rintro ⟨vl, ad, l1, c1, L1, a1, b1⟩ ⟨⟨hval, hrds, hlen, hall1, ⟨x1, hx1, hxa⟩, ⟨y1, hy1, hyb⟩⟩, hends⟩
 dsimp only at hval hrds hlen hall1 hx1 hxa hy1 hyb hends ⊢
 subst hval hxa hyb
 refine DC.cut (ι := WrI) (fun j => WrE es w l.length j ∧ (fromV es x0 = toV es y0 → j.a = j.b) ∧ (fromV es x0 ≠ toV es y0 → j.a = min (fromV es x0) (toV es y0) ∧ j.b = max (fromV es x0) (toV es y0)))
  (fun j => [(0, .pointer p), (1, j.vl)]) (fun j => j.L) ?first14 ?rest14
 case first14 =>
  refine DC.seq ?_
  refine AF (cl := [.q, .q, .q, .q, .q, .q, .q, .q, .q, .q, .q, .v, .r, .q, .q, .q, .q, .q, .q, .v, .r, .q, .q, .q]) (A := [0, 0, 3, 7, 15, 15, 63, 127, 255, 255, 767, 1791, 4095, 255, 255, 255, 33023, 98559, 246015, 508159, 1048575, 2097151, 4194303, 8388607]) (order := [0, 1, 2, 3, 4, 5, 6, 7, 8, 9, 10, 11, 12, 13, 14, 15, 16, 17, 18, 19, 20, 21, 22, 23]) [] mixed (by kernel_rfl) (fun w hw => hw.pick .nil) ?_
  iterate 2 refine Ym ?_
  refine Yo rfl (Bs rfl rfl rfl) ?_
  refine Ym ?_
  refine Flow.split 71 rfl (fun k13_3 => ?_) (fun k13_3 => ?_)
  ·refine Yk ?_
   iterate 18 refine Yk ?_
   refine Yo rfl (A7 rfl rfl rfl) ?_
   refine Flow.end rfl ?_
   simp only [zq, zr]
   refine Fin.then ?_
   refine AI rfl ?_
   refine DC.region ?_
   refine Zm ?_
   refine Seq.rel rfl rfl (Ar Nz rfl rfl rfl (fun w' hw => DF (hrds w' hw).2 (by omega) (fun x hx => by have := hall1 x hx; obtain ⟨h0, h1⟩ := this; omega))) ?_
   rintro v93 _ rfl
   refine Za ?_
   refine Seq.nil ?_
   refine Fin.slcs (i := 0) (xs := aboutL l1) rfl (by rw [BC]; omega) ?_
   rintro A3 c3 rfl hA3
   obtain ⟨ad3, rfl⟩ := hA3 (fun e => by have := congrArg List.length e; rw [BC] at this; simp at this; rw [this] at hx1; simp at hx1)
   obtain ⟨e1, e2⟩ := Im hall1 hx1 hy1
   refine AG ⟨.slice (some ad3) (aboutL l1).length c3, ad3, aboutL l1, c3, [slc (.slice (some ad3) (aboutL l1).length c3) 3 1 (ints (aboutL l1))], toV es y1, fromV es x1⟩
    ⟨⟨rfl, JA (by rw [BC]; omega), by rw [BC]; exact hlen, Gy hall1, e1, e2⟩, fun h => (hends.1 h).symm, fun h => ?_⟩ ⟨rfl, rfl, trivial⟩ (.cons 0 rfl .nil)
   obtain ⟨q1, q2⟩ := hends.2 h
   dsimp only
   simp at k13_3
   omega
  iterate 2 refine Ym ?_
  refine Yo rfl (AN rfl rfl rfl) ?_
  refine Ym ?_
  refine Flow.split 75 rfl (fun k13_7 => ?_) (fun k13_7 => ?_)
  ·refine Ym ?_
   refine Ym ?_
   refine Yo rfl (Aj (ad' := ad.add 0) rfl rfl rfl TT AQ (by omega) (by omega) rfl) ?_
   refine Am rfl rfl rfl rfl (Ai rfl rfl AJ (G6 hrds (fun _ h => h) hx1)) ?_
   refine Flow.rel0 rfl rfl rfl rfl (Ar H5 rfl rfl rfl (fun w' hw => Du (hA.keep hw) _)) ?_
   rintro _ rfl
   iterate 3 refine Ym ?_
   refine Yo rfl (CC rfl rfl TT) ?_
   refine Yo rfl (Bv rfl rfl rfl (by omega)) ?_
   refine Yo rfl (Aj (ad' := ad.add (l1.length - 1)) rfl rfl rfl TT AQ (by omega) (by omega) (by rw [show ((l1.length : Int) - 1).toNat = l1.length - 1 by omega])) ?_
   refine Am rfl rfl rfl rfl (Ai rfl rfl AJ (G6 hrds (fun _ h => h) hy1)) ?_
   refine Flow.rel0 rfl rfl rfl rfl (Ar FT rfl rfl rfl (fun w' hw => Cf (hA.keep hw) _)) ?_
   rintro _ rfl
   refine Yo rfl (Bs rfl rfl rfl) ?_
   refine Yo rfl (A7 rfl rfl rfl) ?_
   refine Yo rfl (AZ rfl rfl rfl) ?_
   refine Flow.end rfl ?_
   simp only [zq, zr]
   refine Fin.then ?_
   refine Zd (fun c13 => ?_) fun c13 => ?_
   ·refine DC.region ?_
    refine Zm ?_
    refine Seq.rel rfl rfl (Ar Nz rfl rfl rfl (fun w' hw => DF (hrds w' hw).2 (by omega) (fun x hx => by have := hall1 x hx; obtain ⟨h0, h1⟩ := this; omega))) ?_
    rintro v93 _ rfl
    refine Za ?_
    refine Seq.nil ?_
    refine Fin.slcs (i := 0) (xs := aboutL l1) rfl (by rw [BC]; omega) ?_
    rintro A3 c3 rfl hA3
    obtain ⟨ad3, rfl⟩ := hA3 (fun e => by have := congrArg List.length e; rw [BC] at this; simp at this; rw [this] at hx1; simp at hx1)
    obtain ⟨e1, e2⟩ := Im hall1 hx1 hy1
    refine AG ⟨.slice (some ad3) (aboutL l1).length c3, ad3, aboutL l1, c3, [slc (.slice (some ad3) (aboutL l1).length c3) 3 1 (ints (aboutL l1))], toV es y1, fromV es x1⟩
     ⟨⟨rfl, JA (by rw [BC]; omega), by rw [BC]; exact hlen, Gy hall1, e1, e2⟩, fun h => (hends.1 h).symm, fun h => ?_⟩ ⟨rfl, rfl, trivial⟩ (.cons 0 rfl .nil)
    obtain ⟨q1, q2⟩ := hends.2 h
    dsimp only
    simp at k13_3
    simp at k13_7; omega
   refine DC.skip ?_
   refine AG ⟨.slice (some ad) l1.length c1, ad, l1, c1, L1, fromV es x1, toV es y1⟩
    ⟨⟨rfl, hrds, hlen, hall1, ⟨x1, hx1, rfl⟩, ⟨y1, hy1, rfl⟩⟩, hends.1, fun h => ?_⟩ ⟨rfl, rfl, trivial⟩ (Pick.all _)
   obtain ⟨q1, q2⟩ := hends.2 h
   dsimp only
   simp at k13_3
   omega
  iterate 14 refine Yk ?_
  refine Yo rfl (AZ rfl rfl rfl) ?_
  refine Yo rfl (AZ rfl rfl rfl) ?_
  refine Flow.end rfl ?_
  simp only [zq, zr]
  refine Fin.then ?_
  refine AT rfl ?_
  refine DC.skip ?_
  refine AG ⟨.slice (some ad) l1.length c1, ad, l1, c1, L1, fromV es x1, toV es y1⟩
   ⟨⟨rfl, hrds, hlen, hall1, ⟨x1, hx1, rfl⟩, ⟨y1, hy1, rfl⟩⟩, hends.1, fun h => ?_⟩ ⟨rfl, rfl, trivial⟩ (Pick.all _)
  obtain ⟨q1, q2⟩ := hends.2 h
  dsimp only
  simp at k13_3
  omega
 rintro ⟨vl, ad2, l2, c2, L2, a2, b2⟩ ⟨⟨hval, hrds2, hlen2, hall2, ⟨x2, hx2, hxa⟩, ⟨y2, hy2, hyb⟩⟩, hends2⟩
 dsimp only at hval hrds2 hlen2 hall2 hx2 hxa hy2 hyb hends2 ⊢
 subst hval hxa hyb
 refine Zs ?_
 iterate 2 refine Zm ?_
 refine Zo (Aj (ad' := ad2.add 0) rfl rfl rfl TT AQ (by omega) (by omega) rfl) ?_
 refine Zu (Ai rfl rfl AJ (G6 hrds2 (fun _ h => h) hx2)) ?_
 refine Seq.rel0 rfl rfl (Ar FT rfl rfl rfl (fun w' hw => Cf (hA.keep hw) _)) ?_
 rintro _ rfl
 refine Zw (AP (cs := #[_]) rfl rfl TT AQ B0 rfl (by decide) (by decide) rfl rfl) fun g99 => ?_
 refine Za ?_
 refine Zx <| DC.seq <| Zs ?_
 refine Zm ?_
 refine Zn TT ?_
 refine Zm ?_
 refine Zx <| DC.block ?_
 refine DC.own (M := slc (.slice (some ⟨g99, 0, none⟩) 1 1) 3 1 (ints [fromV es x2]) :: L2) (fun w hw => BZ (len := 1) (cap := 1) rfl (by decide) (by omega) (by omega) rfl rfl hw) ?_
 refine DC.loop (ι := WrK) (fun j => j.i ≤ l2.length)
  (fun j => [(0, .pointer p), (10, j.v), (100, .slice (some ad2) l2.length c2), (101, .int .i64 l2.length), (102, .int .i64 j.i)])
  (fun j => slc j.v 3 1 (ints (fromV es x2 :: (l2.take j.i).map (toV es))) :: L2) (fun j => l2.length - j.i) ⟨0, _⟩ (Nat.zero_le _) ⟨rfl, rfl, rfl, rfl, rfl, trivial⟩ (.cons 0 rfl (Pick.all _)) ?_
 rintro ⟨i, v⟩ hi
 dsimp only at hi ⊢
 refine Zs ?_
 refine Zc ?_
 refine Zx <| DC.seq ?_
 refine Zd (fun c17 => ?_) fun c17 => ?_
 ·have hlt : i < l2.length := by simpa using c17
  obtain ⟨x, hx⟩ : ∃ x, l2[i]? = some x := ⟨_, Tz hlt⟩
  refine DC.skip <| Fin.then <| DC.seq <| DC.block <| Zs ?_
  refine Zo (Aj (ad' := ad2.add i) rfl rfl rfl TT AQ (by omega) (by omega) rfl) ?_
  refine Zu (Ai rfl rfl AJ (G6 hrds2 (fun _ h => h.sub (TG ..)) hx)) ?_
  refine Za ?_
  refine Zx <| DC.region ?_
  iterate 3 refine Zm ?_
  refine Seq.rel0 rfl rfl (Ar H5 rfl rfl rfl (fun w' hw => Du (hA.keep hw) _)) ?_
  rintro _ rfl
  refine Zw (AP (cs := #[_]) rfl rfl TT AQ B0 rfl (by decide) (by decide) rfl rfl) fun g110 => ?_
  refine Seq.gen rfl rfl (AK rfl rfl rfl TT AQ DE B0 rfl (by decide) (by decide) (F := L2) (fun w hw => hw.sub (TG ..)) (.inl ⟨_, _, rfl, Ak rfl⟩) rfl (Bm [_] []) (by simp; omega)) ?_
  rintro v111 _ rfl
  refine Za ?_
  refine Seq.nil <| Fin.inBlock <| Fin.then <| DC.region ?_
  refine Zp ?_
  refine Zm ?_
  refine Seq.nil ?_
  refine Ag ⟨i + 1, v111⟩ (by dsimp only; omega) (by dsimp only; omega) ⟨rfl, rfl, rfl, rfl, rfl, trivial⟩ (.cons' 0 rfl (by dsimp only; rw [List.take_add_one, hx]; simp [ints]) (Pick.all _))
 refine DC.exit <| Ad <| Ad <| Ah <| Fin.then <| Zs ?_
 refine Zm ?_
 refine Za ?_
 refine Zx <| DC.ret ?_
 have hie : i = l2.length := by simp at c17; omega
 subst hie
 rw [List.take_length]
 refine Fin.weak (E' := [(4, _)]) (L' := [slc v 3 1 (ints (fromV es x2 :: l2.map (toV es)))]) ⟨rfl, trivial⟩ (.cons 0 rfl .nil) ?_
 refine Zh ?_
 refine ⟨_, rfl, by simp [hlen2], fun x y hx hy => ?_⟩
 rw [hx0] at hx
 rw [hy0] at hy
 cases hx; cases hy
 refine ⟨fromV es x2, toV es y2, rfl, ?_, hends2⟩
 have : (fromV es x2 :: l2.map (toV es)).length - 1 = (l2.length - 1) + 1 := by simp; omega
 rw [this, List.getElem?_cons_succ, List.getElem?_map, hy2]; rfl
theorem Gu {w0 : World} {K : List Nat} {L : List Chunk} {i t l c : Nat} {ad : Addr} {xs : List Int} (hi : L[i]? = some (slc (.slice (some ad) l c) t 1 (ints xs))) (hf : xs.length ≤ 17592186044416) : Hass w0 K L ad (ints xs) := by
 intro w hw
 obtain ⟨A, cap, e, hr, _⟩ := Ck hw i hi hf
 cases e
 intro j u hj
 obtain ⟨ad', e, hc⟩ := hr j u hj
 cases e; exact hc
theorem Kp {N : Int} {es : List Pr} {M : AdjM} {p : Option Addr} {w : World} {e : Nat} (hA : AV w N es M p) (he : e < es.length) :
  Calls Tryz.prog 160 #[.pointer p, .int .i64 e] w (Ret w [] fun r L => L = [slc r 3 1 (ints (chainOf es e))]) := by
 have hV := hA.vld
 have hfew := hV.few
 have hle := DV hV (Cy he)
 have hlo := DV hV (C7 he)
 have hpe := List.length_pos_iff.2 (Dj (es := es) (2 * e))
 have hpo := List.length_pos_iff.2 (Dj (es := es) (2 * e + 1))
 have hlast : (wayOf es (2 * e))[(wayOf es (2 * e)).length - 1]? = some (wI es (2 * e) (wayT es (2 * e))) := by rw [← List.getLast?_eq_getElem?, Fa]
 refine Ao (args := [_, _]) (L := []) Tryz.func160 rfl Tryz.ntmps160 rfl (Own.start _ _) ?_
 refine Zs ?_
 refine Za ?_
 refine Zx <| Zs ?_
 iterate 2 refine Zm ?_
 refine Zo (Cl rfl rfl rfl (by omega)) ?_
 refine Seq.rel rfl rfl (Ar PU rfl rfl rfl (fun w' hw => Ga (hA.keep hw) (Cy he))) ?_
 rintro v5 _ rfl
 refine Za ?_
 refine Zx <| DC.seq <| DC.seq ?_
 refine DC.slcs (i := 0) (xs := wayOf es (2 * e)) rfl (by omega) ?_
 rintro A5 c5 rfl hA5
 obtain ⟨ad5, rfl⟩ := hA5 (Dj _)
 refine DC.region ?_
 iterate 3 refine Zm ?_
 refine Zn TT ?_
 refine Zo (Bv rfl rfl rfl (by omega)) ?_
 refine Zo (Aj (ad' := ad5.add ((wayOf es (2 * e)).length - 1)) rfl rfl rfl TT AQ (by omega) (by omega) (by rw [show (((wayOf es (2 * e)).length : Int) - 1).toNat = (wayOf es (2 * e)).length - 1 by omega])) ?_
 refine Zu (Ai rfl rfl AJ (BU (i := 0) rfl hlast (by omega))) ?_
 refine Seq.rel0 rfl rfl (Ar H5 rfl rfl rfl (fun w' hw => Du (hA.keep hw) _)) ?_
 rintro _ rfl
 iterate 2 refine Zm ?_
 refine Zo (Cl rfl rfl rfl (by omega)) ?_
 refine Seq.rel0 rfl rfl (Ar FT rfl rfl rfl (fun w' hw => Cf (hA.keep hw) _)) ?_
 rintro _ rfl
 refine Zo (AN rfl rfl rfl) ?_
 refine Zm ?_
 refine Seq.split 24 rfl (fun k2_13 => ?_) (fun k2_13 => ?_)
 ·refine Zm ?_
  iterate 2 refine Zm ?_
  refine Zo (Cl rfl rfl rfl (by omega)) ?_
  refine Seq.rel0 rfl rfl (Ar FT rfl rfl rfl (fun w' hw => Cf (hA.keep hw) _)) ?_
  rintro _ rfl
  refine Seq.rel0 rfl rfl (Ar Ly rfl rfl rfl (fun w' hw => CO (hA.keep hw) _)) ?_
  rintro _ rfl
  refine Zo (AN rfl rfl rfl) ?_
  refine Zt ?_
  refine Zx ?_
  refine Zd (fun c2 => ?_) fun c2 => ?_
  ·refine Zs ?_
   refine Zm ?_
   refine Za ?_
   refine Zx <| DC.ret <| Aa ?_
   refine Fin.weak (E' := [(4, _)]) (L' := [slc (.slice (some ad5) (wayOf es (2 * e)).length c5) 3 1 (ints (wayOf es (2 * e)))]) ⟨rfl, trivial⟩ (.cons 0 rfl .nil) ?_
   refine Zh ?_
   have hfree : FreeC es e := ⟨by simpa using k2_13, by simp at c2; unfold degV; omega⟩
   unfold chainOf
   rw [if_pos hfree]
  have hfree : ¬ FreeC es e := fun ⟨h1, h2⟩ => by
   simp at c2
   unfold degV at h2
   exact c2 (by exact_mod_cast h2)
  refine DC.skip <| Fin.then <| DC.seq ?_
  have hfree : ¬ FreeC es e := fun ⟨h1, h2⟩ => by
   first
   | (simp at k2_13; exact k2_13 h1)
   | (simp at c2; unfold degV at h2; omega)
  refine DC.region ?_
  iterate 2 refine Zm ?_
  refine Zo (Cl rfl rfl rfl (by omega)) ?_
  refine Zp ?_
  refine Seq.rel rfl rfl (Ar PU rfl rfl rfl (fun w' hw => Ga (hA.keep hw) (C7 he))) ?_
  rintro v6 _ rfl
  refine Za ?_
  refine Zx <| DC.seq ?_
  refine DC.slcs (i := 0) (xs := wayOf es (2 * e + 1)) rfl (by omega) ?_
  rintro A6 c6 rfl hA6
  obtain ⟨ad6, rfl⟩ := hA6 (Dj _)
  refine DC.region ?_
  refine Zm ?_
  refine Zo (D1 (lo := 1) rfl rfl rfl TT AQ (by omega)) ?_
  refine Seq.rel rfl rfl (Ar Nz rfl rfl rfl (fun w' hw => DF ((Fw hw).drop (k := 1) (by omega)) (by rw [List.length_drop]; omega) (fun x hx => by
   have := DW hV (Bz hV (C7 he)).way x (List.mem_of_mem_drop hx)
   obtain ⟨h0, h1⟩ := this; omega))) ?_
  rintro v41 _ rfl
  refine Zm ?_
  refine Seq.gen rfl rfl (AK rfl rfl rfl TT AQ DE B0 rfl (by decide) (by decide) (fun w hw => hw.pick (.cons 0 rfl .nil)) (.inl ⟨_, _, rfl, Gu (i := 2) rfl (by omega)⟩) (by simp) (Bm _ []) (by simp [BC]; omega)) ?_
  rintro v43 _ rfl
  refine Za ?_
  refine Zx <| DC.ret ?_
  refine Fin.weak (E' := [(4, _)]) (L' := [slc v43 3 1 (ints (aboutL ((wayOf es (2 * e + 1)).drop 1)) ++ ints (wayOf es (2 * e)))]) ⟨rfl, trivial⟩ (.cons 0 rfl .nil) ?_
  refine Zh ?_
  unfold chainOf
  rw [if_neg hfree, AU, List.drop_one]
 iterate 7 refine Zk ?_
 refine Zg ?_
 refine Zx ?_
 refine AT rfl ?_
 refine DC.skip <| Fin.then <| DC.seq ?_
 have hfree : ¬ FreeC es e := fun ⟨h1, h2⟩ => by
  first
  | (simp at k2_13; exact k2_13 h1)
  | (simp at c2; unfold degV at h2; omega)
 refine DC.region ?_
 iterate 2 refine Zm ?_
 refine Zo (Cl rfl rfl rfl (by omega)) ?_
 refine Zp ?_
 refine Seq.rel rfl rfl (Ar PU rfl rfl rfl (fun w' hw => Ga (hA.keep hw) (C7 he))) ?_
 rintro v6 _ rfl
 refine Za ?_
 refine Zx <| DC.seq ?_
 refine DC.slcs (i := 0) (xs := wayOf es (2 * e + 1)) rfl (by omega) ?_
 rintro A6 c6 rfl hA6
 obtain ⟨ad6, rfl⟩ := hA6 (Dj _)
 refine DC.region ?_
 refine Zm ?_
 refine Zo (D1 (lo := 1) rfl rfl rfl TT AQ (by omega)) ?_
 refine Seq.rel rfl rfl (Ar Nz rfl rfl rfl (fun w' hw => DF ((Fw hw).drop (k := 1) (by omega)) (by rw [List.length_drop]; omega) (fun x hx => by
  have := DW hV (Bz hV (C7 he)).way x (List.mem_of_mem_drop hx)
  obtain ⟨h0, h1⟩ := this; omega))) ?_
 rintro v41 _ rfl
 refine Zm ?_
 refine Seq.gen rfl rfl (AK rfl rfl rfl TT AQ DE B0 rfl (by decide) (by decide) (fun w hw => hw.pick (.cons 0 rfl .nil)) (.inl ⟨_, _, rfl, Gu (i := 2) rfl (by omega)⟩) (by simp) (Bm _ []) (by simp [BC]; omega)) ?_
 rintro v43 _ rfl
 refine Za ?_
 refine Zx <| DC.ret ?_
 refine Fin.weak (E' := [(4, _)]) (L' := [slc v43 3 1 (ints (aboutL ((wayOf es (2 * e + 1)).drop 1)) ++ ints (wayOf es (2 * e)))]) ⟨rfl, trivial⟩ (.cons 0 rfl .nil) ?_
 refine Zh ?_
 unfold chainOf
 rw [if_neg hfree, AU, List.drop_one]
open Classical
theorem Ki {w0 w : World} {K : List Nat} {L : List Chunk} {N : Int} {es : List Pr} {M : AdjM} (hw : Own w0 K w L) (hp : Pick L (adjL M)) (hP : AdjP N es M) : AV w N es M (some ⟨M.gp, 0, none⟩) := by
 have h := hw.pick hp
 unfold adjL at h
 have h0 := h.holds _ (TI ..)
 have h1 := h.holds _ (TM _ (TI ..))
 have h2 := h.holds _ (TM _ (TM _ (TI ..)))
 have h3 := h.holds _ (TM _ (TM _ (TM _ (TI ..))))
 have h4 := h.holds _ (TM _ (TM _ (TM _ (TM _ (TI ..)))))
 exact .at ⟨h0, h1, h2, h3, h4⟩ hP
/-- The chains that lie before us are those of the first k edges. -/
structure ChR (es : List Pr) (k : Nat) (cs : RL) : Prop where
 len : cs.length = (selU es k).length
 at' : ∀ (j : Nat) e p, (selU es k)[j]? = some e → cs[j]? = some p → WrtR (endA es e) (endB es e) p.2 ∧ 2 ≤ p.2.length ∧ p.2.length ≤ es.length * 4 + 1
theorem ChR.next {es : List Pr} {k : Nat} {cs : RL} {p : Value × List Int} (h : ChR es k cs) (hs : selU es (k + 1) = selU es k ++ [k]) (hp : WrtR (endA es k) (endB es k) p.2 ∧ 2 ≤ p.2.length ∧ p.2.length ≤ es.length * 4 + 1) : ChR es (k + 1) (cs ++ [p]) := by
 refine ⟨by rw [hs]; simp [h.len], fun j e q hj hq => ?_⟩
 rw [hs] at hj
 by_cases hlt : j < cs.length
 ·rw [TK hlt] at hq
  rw [TK (by rw [← h.len]; exact hlt)] at hj
  exact h.at' j e q hj hq
 rw [TL (by omega)] at hq
 rw [TL (by rw [← h.len]; omega), ← h.len] at hj
 have : j - cs.length = 0 := by
  have := (TA.1 hq).1
  simp at this; omega
 rw [this] at hj hq
 simp at hj hq
 subst hj hq
 exact hp
structure ChI where
 i : Nat
 f : Nat → Bool
 cs : RL
 v : Value
structure ChJ where
 j : Nat
 g : Nat → Bool
theorem Kn {N : Int} {es : List Pr} {va : Value} {w : World} (hg : PrV w va es) (hV : Vld N es) :
  Calls Tryz.prog 127 #[.agg #[.int .i64 N, va]] w (Ret w [] fun r M => ∃ v cs, r = .tuple #[v, .int .i64 0] ∧ ChR es es.length cs ∧ M = slc v 44 1 (rowsV cs) :: rowsC 3 cs) := by
 obtain ⟨A, cap, rfl, hr, hlc, hcm, hle⟩ := hg
 have hfew := hV.few
 refine Ao (args := [_]) (L := []) Tryz.func127 rfl Tryz.ntmps127 rfl (Own.start _ _) ?_
 refine Zs ?_
 refine Zw (Ba rfl rfl rfl) fun g1 => ?_
 iterate 2 refine Za ?_
 refine Zx <| Zs ?_
 refine Zu (Ay (vs := [_, _]) rfl rfl Bn Bg rfl (Ak rfl)) ?_
 refine Seq.rel rfl rfl (Ar Rp rfl rfl rfl (fun w' hw => Jm N es A cap w' (hr.keep0 hw) (by omega))) ?_
 intro v14 L14 hC14
 obtain ⟨_, M, hP, rfl, rfl⟩ := hC14.resolve_left (fun h => h.1 hV)
 simp only [adjL, List.cons_append, List.nil_append]
 refine Zm ?_
 iterate 2 refine Ze ?_
 iterate 2 refine Za ?_
 refine Zx <| DC.seq <| Zs ?_
 refine Zm ?_
 refine Zo (BK rfl rfl rfl) ?_
 refine Zx ?_
 refine Zd (fun c2 => ?_) fun c2 => ?_
 ·refine Zs ?_
  refine Zm ?_
  iterate 2 refine Za ?_
  refine Zx <| DC.ret <| Aa ?_
  refine AL (.inl rfl) rfl rfl rfl ?_
  simp at c2
 refine DC.skip <| Fin.then <| Zs ?_
 refine Zf Be ?_
 refine Zl Bu ?_
 refine Zn TU ?_
 refine Zw (Ca (k := es.length) rfl rfl rfl TZ Ft R2 Rv rfl (by omega) (by omega) (DK _)) fun g23 => ?_
 refine Za ?_
 refine Zx <| Zs ?_
 refine Za ?_
 refine Zx <| DC.seq <| Zs ?_
 refine Zf Be ?_
 refine Zl Bu ?_
 refine Zn TU ?_
 refine Zm ?_
 refine Zx <| DC.block ?_
 refine DC.own (fun w hw => AX (t := 44) (m := 1) hw) ?_
 refine DC.loop (ι := ChI) (fun j => j.i ≤ es.length ∧ ChR es j.i j.cs ∧ ∀ x, x < es.length → (j.f x = true ↔ ∃ e, e ∈ selU es j.i ∧ ∃ y, y ∈ chainOf es e ∧ y / 2 = x))
  (fun j => [(4, .pointer (some ⟨M.gp, 0, none⟩)), (6, .slice (some ⟨g23, 0, none⟩) es.length es.length), (7, j.v), (25, .slice A es.length cap), (26, .int .i64 es.length), (27, .int .i64 j.i)])
  (fun j => slc j.v 44 1 (rowsV j.cs) :: blk g23 4 (bls es.length j.f).toArray :: blk M.gp 234 #[sl M.g0 M.fr, sl M.g1 M.st, sl M.g2 M.ou, sl M.g3 M.pl] :: blk M.g0 3 (ints M.fr).toArray :: blk M.g1 3 (ints M.st).toArray :: blk M.g2 3 (ints M.ou).toArray :: blk M.g3 3 (ints M.pl).toArray :: rowsC 3 j.cs) (fun j => es.length - j.i) ⟨0, fun _ => false, [], .slice none 0 0⟩
  ⟨Nat.zero_le _, ⟨rfl, fun j e p h _ => by simp [selU] at h⟩, fun x _ => ⟨fun h => by simp at h, fun ⟨e, h, _⟩ => by simp [selU] at h⟩⟩ ⟨rfl, rfl, rfl, rfl, rfl, rfl, trivial⟩ (.cons 0 rfl (.cons 0 rfl (.cons 0 rfl (.cons 0 rfl (.cons 0 rfl (.cons 0 rfl (.cons 0 rfl .nil))))))) ?_
 rintro ⟨i, f, cs, v7⟩ ⟨hi, hch, hf⟩
 dsimp only at hi hch hf ⊢
 refine Zs ?_
 refine Zc ?_
 refine Zx <| DC.seq ?_
 refine Zd (fun c7 => ?_) fun c7 => ?_
 ·have hlt : i < es.length := by simpa using c7
  have hcsl : cs.length ≤ i := by rw [hch.len]; exact Ex i
  refine DC.skip <| Fin.then <| DC.seq <| DC.block <| Zs ?_
  refine Zm ?_
  refine Za ?_
  refine Zx <| DC.seq <| Zs ?_
  iterate 2 refine Zm ?_
  refine Zi TZ Ft ?_
  refine Zu (Ai rfl rfl II (Bi (Ei f hlt))) ?_
  refine Zx ?_
  refine Zd (fun c9 => ?_) fun c9 => ?_
  ·refine DC.exit <| Ad <| Ah <| Fin.then <| DC.region ?_
   refine Zp ?_
   refine Zm ?_
   refine Seq.nil ?_
   have hsel : selU es (i + 1) = selU es i := by
    show (if _ then _ else _) = _
    rw [if_pos ((hf i hlt).1 c9)]
   refine Ag ⟨i + 1, f, cs, v7⟩ (by dsimp only; omega) ⟨by dsimp only; omega, ⟨by dsimp only; rw [hsel]; exact hch.len, by dsimp only; rw [hsel]; exact hch.at'⟩, by dsimp only; rw [hsel]; exact hf⟩ ⟨rfl, rfl, rfl, rfl, rfl, rfl, trivial⟩ (Pick.all _)
  refine DC.skip <| Fin.then <| Zs ?_
  iterate 2 refine Zm ?_
  refine Seq.rel rfl rfl (Ar SY rfl rfl rfl (fun w' hw => Kp (Ki hw (.cons 2 rfl (.cons 2 rfl (.cons 2 rfl (.cons 2 rfl (.cons 2 rfl .nil))))) hP) hlt)) ?_
  rintro v9 _ rfl
  refine Za ?_
  refine Zx <| DC.seq <| DC.seq ?_
  have hcl := OA hV hlt
  have hsel : selU es (i + 1) = selU es i ++ [i] := by
   show (if _ then _ else _) = _
   have c9' : f i = false := c9
   rw [if_neg (fun h => by rw [(hf i hlt).2 h] at c9'; cases c9')]
  refine DC.slcs (i := 0) (xs := chainOf es i) rfl (by omega) ?_
  rintro A9 c9' rfl hA9
  obtain ⟨ad9, rfl⟩ := hA9 (FY i)
  refine DC.region ?_
  refine Zm ?_
  refine Zn TT ?_
  refine Zm ?_
  refine Zx <| DC.block ?_
  refine DC.loop (ι := ChJ) (fun j => j.j ≤ (chainOf es i).length ∧ ∀ x, x < es.length → (j.g x = true ↔ f x = true ∨ ∃ (q : Nat) (y : Int), q < j.j ∧ (chainOf es i)[q]? = some y ∧ y / 2 = x))
   (fun j => [(4, .pointer (some ⟨M.gp, 0, none⟩)), (6, .slice (some ⟨g23, 0, none⟩) es.length es.length), (7, v7), (9, .slice (some ad9) (chainOf es i).length c9'), (25, .slice A es.length cap), (26, .int .i64 es.length), (27, .int .i64 i), (37, .slice (some ad9) (chainOf es i).length c9'), (38, .int .i64 (chainOf es i).length), (39, .int .i64 j.j)])
   (fun j => slc (.slice (some ad9) (chainOf es i).length c9') 3 1 (ints (chainOf es i)) :: slc v7 44 1 (rowsV cs) :: blk g23 4 (bls es.length j.g).toArray :: blk M.gp 234 #[sl M.g0 M.fr, sl M.g1 M.st, sl M.g2 M.ou, sl M.g3 M.pl] :: blk M.g0 3 (ints M.fr).toArray :: blk M.g1 3 (ints M.st).toArray :: blk M.g2 3 (ints M.ou).toArray :: blk M.g3 3 (ints M.pl).toArray :: rowsC 3 cs) (fun j => (chainOf es i).length - j.j) ⟨0, f⟩
   ⟨Nat.zero_le _, fun x _ => ⟨.inl, fun h => h.elim id fun ⟨_, _, h, _⟩ => absurd h (TS _)⟩⟩ ⟨rfl, rfl, rfl, rfl, rfl, rfl, rfl, rfl, rfl, rfl, trivial⟩ (Pick.all _) ?_
  rintro ⟨j, g⟩ ⟨hj, hgx⟩
  dsimp only at hj hgx ⊢
  refine Zs ?_
  refine Zc ?_
  refine Zx <| DC.seq ?_
  refine Zd (fun c12 => ?_) fun c12 => ?_
  ·have hjl : j < (chainOf es i).length := by simpa using c12
   obtain ⟨y, hy⟩ : ∃ y, (chainOf es i)[j]? = some y := ⟨_, Tz hjl⟩
   obtain ⟨hy0, hy1⟩ := Jj hV hlt y (TD hy)
   refine DC.skip <| Fin.then <| DC.seq <| DC.block <| Zs ?_
   refine Zo (Aj (ad' := ad9.add j) rfl rfl rfl TT AQ (by omega) (by omega) rfl) ?_
   refine Zu (Ai rfl rfl AJ (BU (i := 0) rfl hy (by omega))) ?_
   refine Za ?_
   refine Zx <| DC.region ?_
   iterate 2 refine Zm ?_
   refine Zo (IX rfl rfl rfl (by omega) (by omega)) ?_
   refine Zi TZ Ft ?_
   refine Zy (AE (cs' := (bls es.length (updB g (y / 2).toNat true)).toArray) rfl rfl rfl Ft rfl (by simp; omega) (Eh g true)) ?_
   refine Seq.nil <| Fin.inBlock <| Fin.then <| DC.region ?_
   refine Zp ?_
   refine Zm ?_
   refine Seq.nil ?_
   refine Ag ⟨j + 1, updB g (y / 2).toNat true⟩ (by dsimp only; omega) ⟨by dsimp only; omega, fun x hx => ?_⟩ ⟨rfl, rfl, rfl, rfl, rfl, rfl, rfl, rfl, rfl, rfl, trivial⟩ (Pick.all _)
   dsimp only
   unfold updB
   split
   ·rename_i e; subst e
    simp only [true_iff]
    exact .inr ⟨j, y, by omega, hy, by omega⟩
   rename_i e
   rw [hgx x hx]
   constructor
   ·rintro (h1 | ⟨q, z, h1, h2, h3⟩)
    ·exact .inl h1
    exact .inr ⟨q, z, by omega, h2, h3⟩
   rintro (h1 | ⟨q, z, h1, h2, h3⟩)
   ·exact .inl h1
   rcases TE.1 h1 with h1 | rfl
   ·exact .inr ⟨q, z, h1, h2, h3⟩
   rw [hy] at h2; cases h2
   exact absurd (by omega) e
  refine DC.exit <| Ad <| Ad <| Ah <| Fin.then <| DC.region ?_
  iterate 3 refine Zm ?_
  refine Seq.rel rfl rfl (Ar SX rfl rfl rfl (fun w' hw => Ir (Ki hw (.cons 3 rfl (.cons 3 rfl (.cons 3 rfl (.cons 3 rfl (.cons 3 rfl .nil))))) hP) (Fw hw) (FY i) (Jj hV hlt) (MK hV hlt) (by omega))) ?_
  rintro v51 _ ⟨c, rfl, hclen, hwr⟩
  simp only [zs]
  refine Seq.slcs (i := 0) (xs := c) rfl (by omega) ?_
  rintro A51 c51 rfl _
  refine Zw (AP (cs := #[_]) rfl rfl TW BE Da rfl (by decide) (by decide) rfl rfl) fun g52 => ?_
  refine Seq.gen rfl rfl (AK rfl rfl rfl TW BE IH Da rfl (by decide) (by decide) (news := [.slice A51 c.length c51]) (k := 1) (fun w hw => hw.perm (AO (i := 3) rfl).symm) (.inl ⟨_, _, rfl, Ak rfl⟩) rfl (fun u hu => by rw [List.mem_singleton.1 hu]; rfl) (by simp; omega)) ?_
  rintro v53 _ rfl
  refine Za ?_
  refine Seq.nil <| Fin.inBlock <| Fin.then <| DC.region ?_
  refine Zp ?_
  refine Zm ?_
  refine Seq.nil ?_
  have hjl : j = (chainOf es i).length := by simp at c12; omega
  subst hjl
  refine Fin.own (M := slc v53 44 1 (rowsV (cs ++ [(.slice A51 c.length c51, c)])) :: blk g23 4 (bls es.length g).toArray :: blk M.gp 234 #[sl M.g0 M.fr, sl M.g1 M.st, sl M.g2 M.ou, sl M.g3 M.pl] :: blk M.g0 3 (ints M.fr).toArray :: blk M.g1 3 (ints M.st).toArray :: blk M.g2 3 (ints M.ou).toArray :: blk M.g3 3 (ints M.pl).toArray :: rowsC 3 (cs ++ [(.slice A51 c.length c51, c)])) (fun w hw => ?_) ?_
  ·have e1 : rowsV (cs ++ [(.slice A51 c.length c51, c)]) = rowsV cs ++ [.slice A51 c.length c51] := by simp [rowsV]
   have e2 : rowsC 3 (cs ++ [(.slice A51 c.length c51, c)]) = rowsC 3 cs ++ [slc (.slice A51 c.length c51) 3 1 (ints c)] := by simp [rowsC]
   rw [e1, e2]
   have h1 := hw.sub (L' := slc v53 44 1 (rowsV cs ++ [.slice A51 c.length c51]) :: slc (.slice A51 c.length c51) 3 1 (ints c) :: blk g23 4 (bls es.length g).toArray :: blk M.gp 234 #[sl M.g0 M.fr, sl M.g1 M.st, sl M.g2 M.ou, sl M.g3 M.pl] :: blk M.g0 3 (ints M.fr).toArray :: blk M.g1 3 (ints M.st).toArray :: blk M.g2 3 (ints M.ou).toArray :: blk M.g3 3 (ints M.pl).toArray :: rowsC 3 cs) ((((List.Sublist.refl _).cons _).cons_cons _ |>.cons _).cons_cons _)
   refine h1.perm (List.Perm.cons _ ?_)
   have := TR (l₁ := blk g23 4 (bls es.length g).toArray :: blk M.gp 234 #[sl M.g0 M.fr, sl M.g1 M.st, sl M.g2 M.ou, sl M.g3 M.pl] :: blk M.g0 3 (ints M.fr).toArray :: blk M.g1 3 (ints M.st).toArray :: blk M.g2 3 (ints M.ou).toArray :: blk M.g3 3 (ints M.pl).toArray :: rowsC 3 cs) (l₂ := [slc (.slice A51 c.length c51) 3 1 (ints c)])
   simpa using this
  have hca : (chainOf es i)[0]? = some (((chainOf es i)[0]?).getD (-1)) := by
   obtain ⟨x, hx⟩ : ∃ x, (chainOf es i)[0]? = some x := ⟨_, Tz (List.length_pos_iff.2 (FY i))⟩
   rw [hx]; rfl
  have hcz : (chainOf es i)[(chainOf es i).length - 1]? = some (wI es (2 * i) (wayT es (2 * i))) := by rw [← List.getLast?_eq_getElem?, ML]
  have hcp := List.length_pos_iff.2 (FY (es := es) i)
  refine Ag ⟨i + 1, g, cs ++ [(.slice A51 c.length c51, c)], v53⟩ (by dsimp only; omega) ⟨by dsimp only; omega, hch.next hsel ⟨hwr _ _ hca hcz, by dsimp only; omega, by dsimp only; omega⟩, fun x hx => ?_⟩ ⟨rfl, rfl, rfl, rfl, rfl, rfl, trivial⟩ (Pick.all _)
  dsimp only
  rw [hgx x hx, hf x hx, hsel]
  constructor
  ·rintro (⟨e, he, h⟩ | ⟨q, y, _, hq, hy⟩)
   ·exact ⟨e, by simp [he], h⟩
   exact ⟨i, by simp, y, TD hq, hy⟩
  rintro ⟨e, he, y, hy, hyx⟩
  rcases List.mem_append.1 he with he | he
  ·exact .inl ⟨e, he, y, hy, hyx⟩
  simp at he; subst he
  obtain ⟨q, hq⟩ := TF.1 hy
  exact .inr ⟨q, y, (TA.1 hq).1, hq, hyx⟩
 refine DC.exit <| Ad <| Ad <| Ah <| Fin.then <| Zs ?_
 refine Zm ?_
 iterate 2 refine Za ?_
 refine Zx <| DC.ret ?_
 have hie : i = es.length := by simp at c7; omega
 subst hie
 refine Fin.own (M := slc v7 44 1 (rowsV cs) :: rowsC 3 cs) (fun w hw => hw.sub (((((((List.Sublist.refl _).cons _).cons _).cons _).cons _).cons _).cons _ |>.cons_cons _)) ?_
 refine Fin.weak (E' := [(2, _), (3, _)]) ⟨rfl, rfl, trivial⟩ (Pick.all _) ?_
 refine AL (.inl rfl) rfl rfl rfl ?_
 exact ⟨v7, cs, rfl, hch, rfl⟩
end Go.Fl
