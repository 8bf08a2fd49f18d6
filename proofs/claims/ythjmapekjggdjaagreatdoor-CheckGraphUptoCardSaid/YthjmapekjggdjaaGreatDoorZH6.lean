/- The last part: The law CheckGraph, where what it reads is of bulk at most 1048576: true, and the input reads as it did; the three tables of the library that it lists are tied to the text of the program. -/
import Derived.Test.YthjmapekjggdjaaGreatDoorZH5
set_option linter.unusedVariables false
set_option linter.unusedSimpArgs false
set_option linter.unusedSectionVars false
set_option maxRecDepth 100000
namespace Go.Fl
open Go Go.Proofs
theorem US {l : List Int} {d : Int} {v : Value} {w : World} (hl : SlV w v l) (hn : l.length ≤ 1000000000) :
  Calls Tryz.prog 68 #[v, .int .i64 d] w (Ret w [] fun r M => ∃ A k c, r = .slice A k c ∧ k = (plcs l d l.length).length ∧ M = [slc r 3 1 (ints (plcs l d l.length))]) := by
 refine Calls.mono (r15of_calls hl hn) ?_
 rintro e w' ⟨r, L', rfl, rfl, hO⟩
 obtain ⟨A, len, cap, rfl, hk, _⟩ := Jf hO
 rw [ints_length, Nat.mul_one] at hk
 exact ⟨_, _, rfl, ⟨A, _, cap, rfl, hk.symm, rfl⟩, hO⟩
theorem r15sides_slc {cs : List (List Int)} {E : List Pr} {B : List Int} {v vb : Value} {w : World} (hl : LsV w v cs) (hE : EdL cs E) (hB : SlV w vb B) (hnd : B.Nodup) (hn : cs.length ≤ 100000000) (hBn : B.length ≤ 100000000) :
  Calls Tryz.prog 69 #[v, vb] w (Ret w [] fun r M => ∃ A k c, r = .slice A k c ∧ k = (sidesR E B).length ∧ M = [slc r 3 1 (ints (sidesR E B))]) := by
 refine Calls.mono (r15sides_calls hl hE hB hnd hn hBn) ?_
 rintro e w' ⟨r, L', rfl, rfl, hO⟩
 obtain ⟨A, len, cap, rfl, hk, _⟩ := Jf hO
 rw [ints_length, Nat.mul_one] at hk
 exact ⟨_, _, rfl, ⟨A, _, cap, rfl, hk.symm, rfl⟩, hO⟩
theorem plcs_nodup (l : List Int) (d : Int) (k : Nat) : (plcs l d k).Nodup := by
 unfold plcs List.Nodup
 rw [List.pairwise_map]
 exact (List.Nodup.sublist List.filter_sublist List.nodup_range).imp fun h => by omega
theorem gen_shapeL {P : Program} {w0 : World} {K : List Nat} {n : Nat} {ds : List Deferred} {E : Env} {L F : List Chunk} {o : Oper} {t m : Nat} {vs : List Value} (h : Gen P w0 K n ds E L o (fun v' M => M = slc v' t m vs :: F)) : Gen P w0 K n ds E L o (fun v' M => (∃ A l c, v' = .slice A l c ∧ vs.length = l * m) ∧ M = slc v' t m vs :: F) := by
 intro a w ha hw
 refine (h a w ha hw).mono ?_
 rintro v w' ⟨L', rfl, hO⟩
 obtain ⟨A, len, cap, e, h1, _⟩ := Jf hO
 exact ⟨_, ⟨⟨A, len, cap, e, h1⟩, rfl⟩, hO⟩
theorem calls_forget {P : Program} {f : FuncId} {args : Array Value} {w : World} {D : Value → Prop} (h : Calls P f args w (Ret w [] fun r _ => D r)) : Calls P f args w (Ret w [] fun r M => M = [] ∧ D r) := by
 refine Calls.mono h ?_
 rintro e w' ⟨r, L', he, hD, hO⟩
 exact ⟨r, [], he, ⟨rfl, hD⟩, hO.sub (List.nil_sublist _)⟩
structure SnI where
 kd : Int
 A : Option Addr
 l : Nat
 c : Nat
 B : List Int
structure JnI where
 kd : Int
 A : Option Addr
 l : Nat
 c : Nat
structure RgI2 where
 i : Nat
 A : Option Addr
 l : Nat
 c : Nat
 vs : List Value
/-- How many pairs of places have been asked for ahead of i. -/
def cumK (kd : Int) : Nat → Nat
 | 0 => 0
 | i + 1 => cumK kd i + if kd = 2 then (if i < 3 then 3 else 0) else 4 - i
def innK (kd : Int) (i j : Nat) : Nat := if kd = 2 then (if i < 3 then j - 3 else 0) else j - (i + 1)
theorem innK_start (kd : Int) (i : Nat) : innK kd i (i + 1) = 0 := by
 unfold innK
 split
 ·split <;> omega
 ·exact Nat.sub_self _
theorem innK_yes {kd : Int} {i j : Nat} (h : wantK kd i j) : innK kd i (j + 1) = innK kd i j + 1 := by
 obtain ⟨h1, h2⟩ := h
 unfold innK
 by_cases hk : kd = 2
 ·have := h2 hk
  rw [if_pos hk, if_pos hk, if_pos this.1, if_pos this.1]; omega
 ·rw [if_neg hk, if_neg hk]; omega
theorem innK_no {kd : Int} {i j : Nat} (hij : i < j) (h : ¬ wantK kd i j) : innK kd i (j + 1) = innK kd i j := by
 unfold innK wantK at *
 by_cases hk : kd = 2
 ·rw [if_pos hk, if_pos hk]
  split
  ·have : ¬ 3 ≤ j := fun h3 => h ⟨hij, fun _ => ⟨by omega, h3⟩⟩
   omega
  ·rfl
 ·exact absurd ⟨hij, fun h => absurd h hk⟩ h
theorem cumK_next {kd : Int} {i n m : Nat} (h : (kd = 1 ∧ n = 5 ∧ m = 10) ∨ (kd = 2 ∧ n = 6 ∧ m = 9)) : cumK kd (i + 1) = cumK kd i + innK kd i n := by
 show cumK kd i + _ = _
 congr 1
 unfold innK
 rcases h with ⟨rfl, rfl, rfl⟩ | ⟨rfl, rfl, rfl⟩
 ·simp <;> omega
 ·simp
theorem cumK_end {kd : Int} {n m : Nat} (h : (kd = 1 ∧ n = 5 ∧ m = 10) ∨ (kd = 2 ∧ n = 6 ∧ m = 9)) : cumK kd n = m := by
 rcases h with ⟨rfl, rfl, rfl⟩ | ⟨rfl, rfl, rfl⟩ <;> decide
theorem cumK_le {kd : Int} {i : Nat} : cumK kd i ≤ 4 * i := by
 induction i with
 | zero => exact Nat.le_refl _
 | succ i ih =>
  show cumK kd i + _ ≤ _
  split
  ·split <;> omega
  ·omega
theorem innK_le {kd : Int} {i j : Nat} : innK kd i j ≤ j := by
 unfold innK
 split
 ·split <;> omega
 ·omega
theorem r15Recognise_calls {n : Nat} {es : List Pr} {va : Value} {w : World} (hg : PrV w va es) (hV : Vld n es) :
  Calls Tryz.prog 34 #[.agg #[.int .i64 n, va]] w (Ret w [] fun r M => M = [] ∧ ∃ kd A l c A' l' c' b, r = .tuple #[.agg #[.int .i64 kd, .slice A l c, .slice A' l' c'], .bool b, .int .i64 0] ∧ (b = true ↔ KuraOk n es)) := by
 have hg0 := hg
 have hfew := hV.few
 have hnm := hV.hi
 obtain ⟨A, cap, rfl, hr, hlc, hcm, hle⟩ := hg
 refine Qm (K := []) (args := [_]) (L := []) Tryz.func34 rfl Tryz.ntmps34 rfl (Own.start _ _) ?_
 refine Zs ?_
 refine Seq.new rfl rfl (QL rfl rfl rfl) fun g1 => ?_
 refine Seq.new rfl rfl (QE rfl ze77 rfl) fun g2 => ?_
 refine Za ?_
 refine Za ?_
 refine Zx <| Zs ?_
 refine Seq.val rfl rfl (Qp (vs := [_, _]) rfl rfl Xg Xa rfl (Qk rfl)) ?_
 refine Seq.rel rfl rfl (Ql en66 rfl rfl rfl (fun w hw => Un (hg0.keep0 hw) hV)) ?_
 rintro _ _ ⟨gd, rfl, rfl⟩
 refine Zm ?_
 refine Ze ?_
 refine Ze ?_
 refine Za ?_
 refine Za ?_
 refine Zx <| DC.seq <| Zs ?_
 refine Zm ?_
 refine Seq.pur rfl rfl (XG rfl rfl rfl) ?_
 refine Zx ?_
 refine DC.cond rfl (fun c2 => ?_) (fun c2 => ?_)
 ·simp at c2
 ·refine DC.skip <| Fin.then <| DC.seq ?_
  simp only [List.cons_append, List.nil_append]
  refine DC.region ?_
  refine Seq.val rfl rfl (Qp (vs := [_, _]) rfl rfl Xg Xa rfl (Qk rfl)) ?_
  refine Seq.rel rfl rfl (Ql en67 rfl rfl rfl (fun w hw => r15Chains_pk (hg0.keep0 hw) hV)) ?_
  rintro _ _ ⟨Ac, kc, cc, chc, ls, rfl, rfl, hll, hE, rfl, hcc⟩
  refine Zm ?_
  refine Ze ?_
  refine Ze ?_
  refine Za ?_
  refine Za ?_
  refine Zx <| DC.seq ?_
  simp only [List.cons_append, List.nil_append]
  have hti : (tab n (cnt es)).length = n := by simp
  refine DC.region ?_
  refine Zm ?_
  refine Seq.rel rfl rfl (Ql en68 rfl rfl rfl (fun w hw => US (l := tab n (cnt es)) (XK (g := gd) hw rfl (by simp) (by omega)) (by simp; omega))) ?_
  rintro _ _ ⟨A2, k2, c2', rfl, hk2, rfl⟩
  refine Za ?_
  refine Zx <| DC.seq ?_
  simp only [List.cons_append, List.nil_append]
  rw [hti] at hk2 ⊢
  have hk2n : k2 ≤ n := by rw [hk2]; exact UC ..
  refine Qu (cl := [.q, .v, .q, .r, .q, .q, .q, .q, .q, .q]) (A := [0, 1, 0, 4, 12, 31, 0, 64, 255, 511]) (order := [0, 1, 2, 3, 4, 5, 6, 7, 8, 9]) [] mixed (by kernel_rfl) (fun w hw => hw.pick .nil) ?_
  refine Yf Xt ?_
  refine Yl QD ?_
  refine Ym ?_
  refine VK (V := [slc (.slice A2 k2 c2') 3 1 (ints (plcs (tab n (cnt es)) 2 n)), cc, blk gd 3 (ints (tab n (cnt es))).toArray, blk g2 77 #[.int .i64 0, .slice none 0 0, .slice none 0 0], blk g1 24 #[.int .i64 n, .slice A es.length cap]]) rfl rfl rfl rfl (by kernel_rfl) (Ql en68 rfl rfl rfl (fun w hw => US (l := tab n (cnt es)) (XK (g := gd) hw rfl (by simp) (by omega)) (by simp; omega))) ?_
  rintro _ _ ⟨A0, k0, c0', rfl, hk0, rfl⟩
  have hk0n : k0 ≤ n := by rw [hk0, hti]; exact UC ..
  rw [hti] at hk0 ⊢
  refine Flow.pur rfl rfl rfl (Vg rfl rfl Tryz.underlying44) ?_
  refine Flow.pur rfl rfl rfl (Xo rfl rfl rfl (by omega)) ?_
  refine Ym ?_
  refine Flow.pur rfl rfl rfl (Vg rfl rfl Tryz.underlying44) ?_
  refine Flow.pur rfl rfl rfl (Xo rfl rfl rfl (by omega)) ?_
  refine Flow.pur rfl rfl rfl (QN rfl rfl) ?_
  refine Flow.end rfl ?_
  simp only [List.map_cons, List.map_nil, List.nil_append, List.cons_append, List.append_nil]
  refine Fin.then <| DC.seq ?_
  have hrest : (n : Int) - k0 - k2 = (brV es n).length := by rw [hk0, hk2]; exact rest_len n es
  refine DC.region ?_
  refine Zm ?_
  refine Seq.rel rfl rfl (Ql en68 rfl rfl rfl (fun w hw => US (l := tab n (cnt es)) (XK (g := gd) hw rfl (by simp) (by omega)) (by simp; omega))) ?_
  rintro _ _ ⟨A4, k4, c4', rfl, hk4, rfl⟩
  refine Za ?_
  refine Zx <| DC.seq ?_
  simp only [List.cons_append, List.nil_append]
  rw [hti] at hk4 ⊢
  refine DC.region ?_
  refine Zm ?_
  refine Seq.rel rfl rfl (Ql en68 rfl rfl rfl (fun w hw => US (l := tab n (cnt es)) (XK (g := gd) hw rfl (by simp) (by omega)) (by simp; omega))) ?_
  rintro _ _ ⟨A3, k3, c3', rfl, hk3, rfl⟩
  refine Za ?_
  refine Zx <| DC.seq ?_
  simp only [List.cons_append, List.nil_append]
  rw [hti] at hk3 ⊢
  refine DC.region ?_
  refine Seq.pur rfl rfl (Qt (cs := #[_, _, _]) rfl rfl bs77 rfl rfl) ?_
  refine Seq.new rfl rfl (QE rfl ze77 rfl) fun g13 => ?_
  refine Seq.sto rfl rfl (Qq (cs' := #[_, _, _]) rfl rfl rfl Jc rfl (Nat.le_of_ble_eq_true rfl) rfl) ?_
  refine Zx ?_
  refine DC.cut (ι := JnI) (fun j => (j.kd = 1 ∧ j.A = A4 ∧ j.l = k4 ∧ j.c = c4' ∧ (k4 = 5 ∧ (n : Int) - k0 - k2 = 5 ∧ ls.length = 10)) ∨ (j.kd = 0 ∧ j.A = none ∧ j.l = 0 ∧ j.c = 0 ∧ ¬ (k4 = 5 ∧ (n : Int) - k0 - k2 = 5 ∧ ls.length = 10)))
   (fun j => [(2, .pointer (some ⟨g2, 0, none⟩)), (7, .slice Ac ls.length chc), (10, .int .i64 ((n : Int) - k0 - k2)), (12, .slice A3 k3 c3'), (13, .pointer (some ⟨g13, 0, none⟩))])
   (fun j => [blk g13 77 #[.int .i64 j.kd, .slice j.A j.l j.c, .slice none 0 0], slc (.slice A3 k3 c3') 3 1 (ints (plcs (tab n (cnt es)) 3 n)), slc (.slice A4 k4 c4') 3 1 (ints (plcs (tab n (cnt es)) 4 n)), cc, blk g2 77 #[.int .i64 0, .slice none 0 0, .slice none 0 0]]) ?first12 ?rest12
  case first12 =>
   refine Zs ?_
   refine Zm ?_
   refine Zn Tryz.underlying44 ?_
   refine Seq.pur rfl rfl (QC rfl rfl rfl) ?_
   refine Zm ?_
   refine Seq.split 51 rfl (fun k10_3 => ?_) (fun k10_3 => ?_)
   ·refine Zm ?_
    refine Seq.pur rfl rfl (QC rfl rfl rfl) ?_
    refine Zt ?_
    refine Zm ?_
    refine Seq.split 55 rfl (fun k10_7 => ?_) (fun k10_7 => ?_)
    ·refine Zm ?_
     refine Zn Tryz.underlying25 ?_
     refine Seq.pur rfl rfl (QC rfl rfl rfl) ?_
     refine Zt ?_
     refine Zx ?_
     refine DC.cond rfl (fun c10 => ?_) (fun c10 => ?_)
     ·refine Zs ?_
      refine Zf fi77_0 ?_
      refine Seq.sto rfl rfl (Qv (cs' := #[_, _, _]) rfl rfl rfl QF rfl (Nat.le_of_ble_eq_true rfl) rfl) ?_
      refine Zx <| DC.region ?_
      refine Zm ?_
      refine Zf fi77_1 ?_
      refine Seq.sto rfl rfl (Qv (cs' := #[_, _, _]) rfl rfl rfl Xs rfl (Nat.le_of_ble_eq_true rfl) rfl) ?_
      refine Seq.nil ?_
      first
      | (refine QH ⟨1, A4, k4, c4'⟩ (.inl ⟨rfl, rfl, rfl, rfl, ?_⟩) ⟨rfl, rfl, rfl, rfl, rfl, trivial⟩ (.cons 0 rfl (.cons 0 rfl (.cons 0 rfl (.cons 2 rfl (.cons 3 rfl .nil)))))
         simp at *; omega)
      | (refine QH ⟨0, none, 0, 0⟩ (.inr ⟨rfl, rfl, rfl, rfl, ?_⟩) ⟨rfl, rfl, rfl, rfl, rfl, trivial⟩ (.cons 0 rfl (.cons 0 rfl (.cons 0 rfl (.cons 2 rfl (.cons 3 rfl .nil)))))
         simp at *; omega)
     ·refine DC.skip ?_
      first
      | (refine QH ⟨1, A4, k4, c4'⟩ (.inl ⟨rfl, rfl, rfl, rfl, ?_⟩) ⟨rfl, rfl, rfl, rfl, rfl, trivial⟩ (.cons 0 rfl (.cons 0 rfl (.cons 0 rfl (.cons 2 rfl (.cons 3 rfl .nil)))))
         simp at *; omega)
      | (refine QH ⟨0, none, 0, 0⟩ (.inr ⟨rfl, rfl, rfl, rfl, ?_⟩) ⟨rfl, rfl, rfl, rfl, rfl, trivial⟩ (.cons 0 rfl (.cons 0 rfl (.cons 0 rfl (.cons 2 rfl (.cons 3 rfl .nil)))))
         simp at *; omega)
    ·refine Zk ?_
     refine Zk ?_
     refine Zk ?_
     refine Zg ?_
     refine Zx ?_
     refine QJ rfl ?_
     refine DC.skip ?_
     first
     | (refine QH ⟨1, A4, k4, c4'⟩ (.inl ⟨rfl, rfl, rfl, rfl, ?_⟩) ⟨rfl, rfl, rfl, rfl, rfl, trivial⟩ (.cons 0 rfl (.cons 0 rfl (.cons 0 rfl (.cons 2 rfl (.cons 3 rfl .nil)))))
        simp at *; omega)
     | (refine QH ⟨0, none, 0, 0⟩ (.inr ⟨rfl, rfl, rfl, rfl, ?_⟩) ⟨rfl, rfl, rfl, rfl, rfl, trivial⟩ (.cons 0 rfl (.cons 0 rfl (.cons 0 rfl (.cons 2 rfl (.cons 3 rfl .nil)))))
        simp at *; omega)
   ·refine Zk ?_
    refine Zk ?_
    refine Zg ?_
    refine Zm ?_
    refine Zk ?_
    refine Zk ?_
    refine Zk ?_
    refine Zg ?_
    refine Zx ?_
    refine QJ rfl ?_
    refine DC.skip ?_
    first
    | (refine QH ⟨1, A4, k4, c4'⟩ (.inl ⟨rfl, rfl, rfl, rfl, ?_⟩) ⟨rfl, rfl, rfl, rfl, rfl, trivial⟩ (.cons 0 rfl (.cons 0 rfl (.cons 0 rfl (.cons 2 rfl (.cons 3 rfl .nil)))))
       simp at *; omega)
    | (refine QH ⟨0, none, 0, 0⟩ (.inr ⟨rfl, rfl, rfl, rfl, ?_⟩) ⟨rfl, rfl, rfl, rfl, rfl, trivial⟩ (.cons 0 rfl (.cons 0 rfl (.cons 0 rfl (.cons 2 rfl (.cons 3 rfl .nil)))))
       simp at *; omega)
  case rest12 =>
   rintro ⟨kd, A, l, c⟩ hj
   have hp3 := UC (tab n (cnt es)) 3 n
   have hp4 := UC (tab n (cnt es)) 4 n
   dsimp only at hj ⊢
   refine DC.cut (ι := SnI) (fun j => j.l = j.B.length ∧ ((j.kd = 0 ∧ j.B = [] ∧ ¬ (k4 = 5 ∧ (n : Int) - k0 - k2 = 5 ∧ ls.length = 10) ∧ ¬ (k3 = 6 ∧ (n : Int) - k0 - k2 = 6 ∧ ls.length = 9)) ∨ (j.kd = 1 ∧ j.B = plcs (tab n (cnt es)) 4 n ∧ (k4 = 5 ∧ (n : Int) - k0 - k2 = 5 ∧ ls.length = 10)) ∨ (j.kd = 2 ∧ j.B = sidesR (endsU es es.length) (plcs (tab n (cnt es)) 3 n) ∧ (k3 = 6 ∧ (n : Int) - k0 - k2 = 6 ∧ ls.length = 9))))
    (fun j => [(2, .pointer (some ⟨g2, 0, none⟩)), (7, .slice Ac ls.length chc), (13, .pointer (some ⟨g13, 0, none⟩))])
    (fun j => [blk g13 77 #[.int .i64 j.kd, .slice j.A j.l j.c, .slice none 0 0], slc (.slice j.A j.l j.c) 3 1 (ints j.B), cc, blk g2 77 #[.int .i64 0, .slice none 0 0, .slice none 0 0]]) ?first15 ?rest15
   case first15 =>
    refine Zs ?_
    refine Zm ?_
    refine Zn Tryz.underlying44 ?_
    refine Seq.pur rfl rfl (QC rfl rfl rfl) ?_
    refine Zm ?_
    refine Seq.split 66 rfl (fun k13_3 => ?_) (fun k13_3 => ?_)
    ·refine Zm ?_
     refine Seq.pur rfl rfl (QC rfl rfl rfl) ?_
     refine Zt ?_
     refine Zm ?_
     refine Seq.split 70 rfl (fun k13_7 => ?_) (fun k13_7 => ?_)
     ·refine Zm ?_
      refine Zn Tryz.underlying25 ?_
      refine Seq.pur rfl rfl (QC rfl rfl rfl) ?_
      refine Zt ?_
      refine Zx ?_
      refine DC.cond rfl (fun c13 => ?_) (fun c13 => ?_)
      ·refine Zs ?_
       refine Zf fi77_0 ?_
       refine Seq.sto rfl rfl (Qv (cs' := #[_, _, _]) rfl rfl rfl QF rfl (Nat.le_of_ble_eq_true rfl) rfl) ?_
       refine Zx <| DC.region ?_
       refine Zm ?_
       refine Zm ?_
       refine Seq.rel rfl rfl (Ql en69 rfl rfl rfl (fun w hw => r15sides_slc (hcc _ _ _ _ 3 hw rfl) hE (Jb hw 1 rfl (by omega)) (plcs_nodup ..) (by simp at c13; omega) (by omega))) ?_
       rintro _ _ ⟨A5, k5, c5', rfl, hk5, rfl⟩
       simp only [List.cons_append, List.nil_append]
       refine Zf fi77_1 ?_
       refine Seq.sto rfl rfl (Qv (cs' := #[_, _, _]) rfl rfl rfl Xs rfl (Nat.le_of_ble_eq_true rfl) rfl) ?_
       refine Seq.nil ?_
       first
       | (refine QH ⟨2, A5, k5, c5', _⟩ ⟨hk5, .inr (.inr ⟨rfl, rfl, ?_⟩)⟩ ⟨rfl, rfl, rfl, trivial⟩ (.cons 1 rfl (.cons 0 rfl (.cons 2 rfl (.cons 2 rfl .nil))))
          simp at *; omega)
       | (rcases hj with ⟨rfl, rfl, rfl, rfl, hj⟩ | ⟨rfl, rfl, rfl, rfl, hj⟩
          ·refine QH ⟨1, _, _, _, _⟩ ⟨hk4, .inr (.inl ⟨rfl, rfl, hj⟩)⟩ ⟨rfl, rfl, rfl, trivial⟩ (.cons 0 rfl (.cons 1 rfl (.cons 1 rfl (.cons 1 rfl .nil))))
          ·refine Fin.own (fun w hw => QW (t := 3) (m := 1) hw) ?_
           refine QH ⟨0, none, 0, 0, []⟩ ⟨rfl, .inl ⟨rfl, rfl, hj, ?_⟩⟩ ⟨rfl, rfl, rfl, trivial⟩ (.cons 1 rfl (.cons 0 rfl (.cons 2 rfl (.cons 2 rfl .nil))))
           simp at *; omega)
      ·refine DC.skip ?_
       first
       | (refine QH ⟨2, A5, k5, c5', _⟩ ⟨hk5, .inr (.inr ⟨rfl, rfl, ?_⟩)⟩ ⟨rfl, rfl, rfl, trivial⟩ (.cons 1 rfl (.cons 0 rfl (.cons 2 rfl (.cons 2 rfl .nil))))
          simp at *; omega)
       | (rcases hj with ⟨rfl, rfl, rfl, rfl, hj⟩ | ⟨rfl, rfl, rfl, rfl, hj⟩
          ·refine QH ⟨1, _, _, _, _⟩ ⟨hk4, .inr (.inl ⟨rfl, rfl, hj⟩)⟩ ⟨rfl, rfl, rfl, trivial⟩ (.cons 0 rfl (.cons 1 rfl (.cons 1 rfl (.cons 1 rfl .nil))))
          ·refine Fin.own (fun w hw => QW (t := 3) (m := 1) hw) ?_
           refine QH ⟨0, none, 0, 0, []⟩ ⟨rfl, .inl ⟨rfl, rfl, hj, ?_⟩⟩ ⟨rfl, rfl, rfl, trivial⟩ (.cons 1 rfl (.cons 0 rfl (.cons 2 rfl (.cons 2 rfl .nil))))
           simp at *; omega)
     ·refine Zk ?_
      refine Zk ?_
      refine Zk ?_
      refine Zg ?_
      refine Zx ?_
      refine QJ rfl ?_
      refine DC.skip ?_
      first
      | (refine QH ⟨2, A5, k5, c5', _⟩ ⟨hk5, .inr (.inr ⟨rfl, rfl, ?_⟩)⟩ ⟨rfl, rfl, rfl, trivial⟩ (.cons 1 rfl (.cons 0 rfl (.cons 2 rfl (.cons 2 rfl .nil))))
         simp at *; omega)
      | (rcases hj with ⟨rfl, rfl, rfl, rfl, hj⟩ | ⟨rfl, rfl, rfl, rfl, hj⟩
         ·refine QH ⟨1, _, _, _, _⟩ ⟨hk4, .inr (.inl ⟨rfl, rfl, hj⟩)⟩ ⟨rfl, rfl, rfl, trivial⟩ (.cons 0 rfl (.cons 1 rfl (.cons 1 rfl (.cons 1 rfl .nil))))
         ·refine Fin.own (fun w hw => QW (t := 3) (m := 1) hw) ?_
          refine QH ⟨0, none, 0, 0, []⟩ ⟨rfl, .inl ⟨rfl, rfl, hj, ?_⟩⟩ ⟨rfl, rfl, rfl, trivial⟩ (.cons 1 rfl (.cons 0 rfl (.cons 2 rfl (.cons 2 rfl .nil))))
          simp at *; omega)
    ·refine Zk ?_
     refine Zk ?_
     refine Zg ?_
     refine Zm ?_
     refine Zk ?_
     refine Zk ?_
     refine Zk ?_
     refine Zg ?_
     refine Zx ?_
     refine QJ rfl ?_
     refine DC.skip ?_
     first
     | (refine QH ⟨2, A5, k5, c5', _⟩ ⟨hk5, .inr (.inr ⟨rfl, rfl, ?_⟩)⟩ ⟨rfl, rfl, rfl, trivial⟩ (.cons 1 rfl (.cons 0 rfl (.cons 2 rfl (.cons 2 rfl .nil))))
        simp at *; omega)
     | (rcases hj with ⟨rfl, rfl, rfl, rfl, hj⟩ | ⟨rfl, rfl, rfl, rfl, hj⟩
        ·refine QH ⟨1, _, _, _, _⟩ ⟨hk4, .inr (.inl ⟨rfl, rfl, hj⟩)⟩ ⟨rfl, rfl, rfl, trivial⟩ (.cons 0 rfl (.cons 1 rfl (.cons 1 rfl (.cons 1 rfl .nil))))
        ·refine Fin.own (fun w hw => QW (t := 3) (m := 1) hw) ?_
         refine QH ⟨0, none, 0, 0, []⟩ ⟨rfl, .inl ⟨rfl, rfl, hj, ?_⟩⟩ ⟨rfl, rfl, rfl, trivial⟩ (.cons 1 rfl (.cons 0 rfl (.cons 2 rfl (.cons 2 rfl .nil))))
         simp at *; omega)
   case rest15 =>
    rintro ⟨kd5, A5, l5, c5, B⟩ ⟨hlB, hs⟩
    dsimp only at hlB hs ⊢
    subst hlB
    rw [hrest, hk3, hk4, hE.1] at hs
    have hBl : B.length ≤ 6 := by
     rcases hs with ⟨_, rfl, _⟩ | ⟨_, rfl, h, _⟩ | ⟨_, rfl, h, _⟩
     ·exact Nat.zero_le _
     ·omega
     ·rw [(Vr _ _).length_eq]; omega
    refine DC.seq <| Zs ?_
    refine Zf fi77_0 ?_
    refine Zl ag75 ?_
    refine Seq.pur rfl rfl (QC rfl rfl rfl) ?_
    refine Zx ?_
    refine DC.cond rfl (fun c16 => ?_) (fun c16 => ?_)
    ·have hno : ¬ KuraOk n es := by
      rcases hs with ⟨_, _, h5, h6⟩ | ⟨rfl, _⟩ | ⟨rfl, _⟩
      ·exact kura_none (fun h => h5 ⟨h.1, by rw [h.2.1]; rfl, h.2.2⟩) (fun h => h6 ⟨h.1, by rw [h.2.1]; rfl, h.2.2⟩)
      ·simp at c16
      ·simp at c16
     refine Zs ?_
     refine Seq.pur rfl rfl (Qt (cs := #[_, _, _]) rfl rfl bs77 rfl rfl) ?_
     refine Seq.sto rfl rfl (Qq (cs' := #[_, _, _]) rfl rfl rfl Jc rfl (Nat.le_of_ble_eq_true rfl) rfl) ?_
     refine Za ?_
     refine Za ?_
     refine Zx <| DC.ret <| Qc ?_
     refine Fin.weak (E' := [(2, .pointer (some ⟨g2, 0, none⟩)), (3, .bool false), (4, .int .i64 0)]) (L' := [blk g2 77 #[.int .i64 0, .slice none 0 0, .slice none 0 0]]) ⟨rfl, rfl, rfl, trivial⟩ (.cons 3 rfl .nil) ?_
     refine XT (cs := #[_, _, _]) (.inl rfl) rfl rfl rfl rfl UN Jc ?_
     exact ⟨[], fun w hw => hw.sub (List.nil_sublist _), rfl, _, _, _, _, _, _, _, false, rfl, by simp [hno]⟩
    ·have hkd : kd5 = 1 ∨ kd5 = 2 := by
      rcases hs with ⟨rfl, _⟩ | ⟨rfl, _⟩ | ⟨rfl, _⟩
      ·simp at c16
      ·exact .inl rfl
      ·exact .inr rfl
     have hlen : (kd5 = 1 ∧ B.length = 5 ∧ ls.length = 10) ∨ (kd5 = 2 ∧ B.length = 6 ∧ ls.length = 9) := by
      rw [hE.1]
      rcases hs with ⟨rfl, _⟩ | ⟨rfl, rfl, h, _, h2⟩ | ⟨rfl, rfl, h, _, h2⟩
      ·simp at c16
      ·exact .inl ⟨rfl, h, h2⟩
      ·exact .inr ⟨rfl, by rw [(Vr _ _).length_eq]; exact h, h2⟩
     have hBn : B.Nodup := by
      rcases hs with ⟨_, rfl, _⟩ | ⟨_, rfl, _⟩ | ⟨_, rfl, _⟩
      ·exact List.nodup_nil
      ·exact plcs_nodup ..
      ·exact (Vr _ _).nodup_iff.2 (plcs_nodup ..)
     have hiff : KuraOk n es ↔ ∀ (i j : Nat) (x y : Int), wantK kd5 i j → B[i]? = some x → B[j]? = some y → (endsU es es.length).count (srt x y) = 1 := by
      rcases hs with ⟨rfl, _⟩ | ⟨rfl, rfl, h, h1, h2⟩ | ⟨rfl, rfl, h, h1, h2⟩
      ·simp at c16
      ·rw [kura_five h (by omega) h2, want_pairs]
      ·rw [kura_six h (by omega) h2, want_cross]
     refine DC.rd1 1 rfl ?_
     intro hA5
     rw [ints_length] at hA5
     obtain ⟨ad5, rfl⟩ := hA5 (by omega)
     refine DC.skip <| Fin.then <| DC.seq <| Zs ?_
     refine Za ?_
     refine Zx <| DC.block ?_
     refine DC.own (fun w hw => QW (t := 44) (m := 1) hw) ?_
     refine DC.loop (ι := RgI2) (fun q => q.i ≤ B.length ∧ q.vs.length = q.l ∧ q.l = cumK kd5 q.i ∧ ∀ (i' j' : Nat) (x y : Int), i' < q.i → wantK kd5 i' j' → B[i']? = some x → B[j']? = some y → (endsU es es.length).count (srt x y) = 1)
      (fun q => [(2, .pointer (some ⟨g2, 0, none⟩)), (7, .slice Ac ls.length chc), (13, .pointer (some ⟨g13, 0, none⟩)), (14, .int .i64 (q.i : Nat))])
      (fun q => [slc (.slice q.A q.l q.c) 44 1 q.vs, blk g13 77 #[.int .i64 kd5, .slice (some ad5) B.length c5, .slice q.A q.l q.c], slc (.slice (some ad5) B.length c5) 3 1 (ints B), cc, blk g2 77 #[.int .i64 0, .slice none 0 0, .slice none 0 0]])
      (fun q => B.length - q.i) ⟨0, none, 0, 0, []⟩ ⟨Nat.zero_le _, rfl, rfl, fun i' _ _ _ h => absurd h (Nat.not_lt_zero _)⟩ ⟨rfl, rfl, rfl, rfl, trivial⟩ (.cons 0 rfl (.cons 0 rfl (.cons 0 rfl (.cons 0 rfl (.cons 0 rfl .nil))))) ?_
     rintro ⟨i, Ap, lp, cp, vs⟩ ⟨hi, hvs, hlp, hall⟩
     dsimp only at hi hvs hlp hall ⊢
     subst hlp
     have hcu := cumK_le (kd := kd5) (i := i)
     refine DC.seq <| Zs ?_
     refine Zm ?_
     refine Zf fi77_1 ?_
     refine Zl Xm ?_
     refine Zn Tryz.underlying44 ?_
     refine Zc ?_
     refine Zx ?_
     refine DC.cond rfl (fun c19 => ?_) (fun c19 => ?_)
     ·have hiB : i < B.length := by simpa using c19
      obtain ⟨x, hx⟩ : ∃ x, B[i]? = some x := ⟨_, List.getElem?_eq_getElem hiB⟩
      refine DC.skip <| Fin.then <| DC.seq <| DC.block <| Zs ?_
      refine Zm ?_
      refine Zp ?_
      refine Za ?_
      refine Zx <| DC.block ?_
      refine DC.loop (ι := RgI2) (fun q => i + 1 ≤ q.i ∧ q.i ≤ B.length ∧ q.vs.length = q.l ∧ q.l = cumK kd5 i + innK kd5 i q.i ∧ ∀ (j' : Nat) (y : Int), j' < q.i → wantK kd5 i j' → B[j']? = some y → (endsU es es.length).count (srt x y) = 1)
       (fun q => [(2, .pointer (some ⟨g2, 0, none⟩)), (7, .slice Ac ls.length chc), (13, .pointer (some ⟨g13, 0, none⟩)), (14, .int .i64 (i : Nat)), (15, .int .i64 (q.i : Nat))])
       (fun q => [slc (.slice q.A q.l q.c) 44 1 q.vs, blk g13 77 #[.int .i64 kd5, .slice (some ad5) B.length c5, .slice q.A q.l q.c], slc (.slice (some ad5) B.length c5) 3 1 (ints B), cc, blk g2 77 #[.int .i64 0, .slice none 0 0, .slice none 0 0]])
       (fun q => B.length - q.i) ⟨i + 1, Ap, cumK kd5 i, cp, vs⟩ ⟨Nat.le_refl _, hiB, hvs, by rw [innK_start]; rfl, fun j' y h hw => absurd hw.1 (by dsimp only at h; omega)⟩ ⟨rfl, rfl, rfl, rfl, rfl, trivial⟩ (.cons 0 rfl (.cons 0 rfl (.cons 0 rfl (.cons 0 rfl (.cons 0 rfl .nil))))) ?_
      rintro ⟨j, Aq, lq, cq, ws⟩ ⟨hij, hj, hws, hlq, hrow⟩
      dsimp only at hij hj hws hlq hrow ⊢
      subst hlq
      have hin := innK_le (kd := kd5) (i := i) (j := j)
      refine DC.seq <| Zs ?_
      refine Zm ?_
      refine Zf fi77_1 ?_
      refine Zl Xm ?_
      refine Zn Tryz.underlying44 ?_
      refine Zc ?_
      refine Zx ?_
      refine DC.cond rfl (fun c22 => ?_) (fun c22 => ?_)
      ·have hjB : j < B.length := by simpa using c22
       obtain ⟨y, hy⟩ : ∃ y, B[j]? = some y := ⟨_, List.getElem?_eq_getElem hjB⟩
       have hne : x ≠ y := fun h => by
        subst h
        have := nodup_atS hBn hx hy
        omega
       refine DC.skip <| Fin.then <| DC.seq <| DC.block ?_
       refine DC.cut (ι := Unit) (fun _ => wantK kd5 i j)
        (fun _ => [(2, .pointer (some ⟨g2, 0, none⟩)), (7, .slice Ac ls.length chc), (13, .pointer (some ⟨g13, 0, none⟩)), (14, .int .i64 (i : Nat)), (15, .int .i64 (j : Nat))])
        (fun _ => [slc (.slice Aq (cumK kd5 i + innK kd5 i j) cq) 44 1 ws, blk g13 77 #[.int .i64 kd5, .slice (some ad5) B.length c5, .slice Aq (cumK kd5 i + innK kd5 i j) cq], slc (.slice (some ad5) B.length c5) 3 1 (ints B), cc, blk g2 77 #[.int .i64 0, .slice none 0 0, .slice none 0 0]]) ?first24 ?rest24
       case first24 =>
        refine Zs ?_
        refine Zf fi77_0 ?_
        refine Zl ag75 ?_
        refine Seq.pur rfl rfl (QC rfl rfl rfl) ?_
        refine Zm ?_
        refine Seq.split 103 rfl (fun k24_3 => ?_) (fun k24_3 => ?_)
        ·refine Zm ?_
         refine Seq.pur rfl rfl (Jh rfl rfl rfl) ?_
         refine Zm ?_
         refine Seq.split 106 rfl (fun k24_6 => ?_) (fun k24_6 => ?_)
         ·refine Zk ?_
          refine Zk ?_
          refine Zt ?_
          refine Zt ?_
          refine Zx ?_
          refine QB rfl ?_
          refine DC.exit <| Qd <| Qf <| Fin.then <| DC.region ?_
          refine Zm ?_
          refine Zp ?_
          refine Za ?_
          refine Seq.nil ?_
          have hnw : ¬ wantK kd5 i j := by
           intro h
           have h1 := h.2 (by simpa using k24_3)
           first
           | (simp at k24_6; omega)
           | (simp at c24; omega)
          refine Fin.again ⟨j + 1, Aq, cumK kd5 i + innK kd5 i j, cq, ws⟩ (by dsimp only; omega) ⟨by dsimp only; omega, by dsimp only; omega, hws, by dsimp only; rw [innK_no (by omega) hnw], ?_⟩ ⟨rfl, rfl, rfl, rfl, rfl, trivial⟩ (.cons 0 rfl (.cons 0 rfl (.cons 0 rfl (.cons 0 rfl (.cons 0 rfl .nil)))))
          intro j' y' h hw hy'
          dsimp only at h
          rcases Nat.lt_or_ge j' j with h1 | h1
          ·exact hrow j' y' h1 hw hy'
          ·obtain rfl : j' = j := by omega
           exact absurd hw hnw
         ·refine Zm ?_
          refine Zc ?_
          refine Zg ?_
          refine Zt ?_
          refine Zx ?_
          refine DC.cond rfl (fun c24 => ?_) (fun c24 => ?_)
          ·refine DC.exit <| Qd <| Qf <| Fin.then <| DC.region ?_
           refine Zm ?_
           refine Zp ?_
           refine Za ?_
           refine Seq.nil ?_
           have hnw : ¬ wantK kd5 i j := by
            intro h
            have h1 := h.2 (by simpa using k24_3)
            first
            | (simp at k24_6; omega)
            | (simp at c24; omega)
           refine Fin.again ⟨j + 1, Aq, cumK kd5 i + innK kd5 i j, cq, ws⟩ (by dsimp only; omega) ⟨by dsimp only; omega, by dsimp only; omega, hws, by dsimp only; rw [innK_no (by omega) hnw], ?_⟩ ⟨rfl, rfl, rfl, rfl, rfl, trivial⟩ (.cons 0 rfl (.cons 0 rfl (.cons 0 rfl (.cons 0 rfl (.cons 0 rfl .nil)))))
           intro j' y' h hw hy'
           dsimp only at h
           rcases Nat.lt_or_ge j' j with h1 | h1
           ·exact hrow j' y' h1 hw hy'
           ·obtain rfl : j' = j := by omega
            exact absurd hw hnw
          ·refine DC.skip ?_
           refine QH () ?_ ⟨rfl, rfl, rfl, rfl, rfl, trivial⟩ (.cons 0 rfl (.cons 0 rfl (.cons 0 rfl (.cons 0 rfl (.cons 0 rfl .nil)))))
           unfold wantK
           first
           | (simp at *; omega)
           | (refine ⟨by omega, fun h => ?_⟩; simp [h] at *; omega)
           | (refine ⟨by omega, fun h => ?_⟩; simp at k24_3; omega)
        ·refine Zk ?_
         refine Zk ?_
         refine Zk ?_
         refine Zk ?_
         refine Zk ?_
         refine Zk ?_
         refine Zg ?_
         refine Zx ?_
         refine QJ rfl ?_
         refine DC.skip ?_
         refine QH () ?_ ⟨rfl, rfl, rfl, rfl, rfl, trivial⟩ (.cons 0 rfl (.cons 0 rfl (.cons 0 rfl (.cons 0 rfl (.cons 0 rfl .nil)))))
         unfold wantK
         first
         | (simp at *; omega)
         | (refine ⟨by omega, fun h => ?_⟩; simp [h] at *; omega)
         | (refine ⟨by omega, fun h => ?_⟩; simp at k24_3; omega)
       case rest24 =>
        rintro ⟨⟩ hwant
        refine DC.seq ?_
        refine Qu (cl := [.q, .q, .v, .q, .q, .v, .q, .v, .q, .q, .v, .r, .q, .q, .q, .q, .q]) (A := [0, 0, 2, 0, 14, 30, 0, 64, 0, 448, 960, 2047, 4095, 8191, 8191, 16383, 65535]) (order := [0, 1, 2, 3, 4, 5, 6, 7, 8, 9, 10, 11, 12, 13, 14, 15, 16]) [] mixed (by kernel_rfl) (fun w hw => hw.pick .nil) ?_
        refine Ym ?_
        refine Yf fi77_1 ?_
        refine Yl Xm ?_
        refine Ym ?_
        refine Flow.pur rfl rfl rfl (Qh (ad' := ad5.add i) rfl rfl rfl Tryz.underlying44 QF (by omega) (by omega) (by rw [Int.toNat_natCast])) ?_
        refine Qj rfl rfl rfl rfl (Qg rfl rfl QD (XH (i := 2) rfl hx (by omega))) ?_
        refine Yf fi77_1 ?_
        refine Yl Xm ?_
        refine Ym ?_
        refine Flow.pur rfl rfl rfl (Qh (ad' := ad5.add j) rfl rfl rfl Tryz.underlying44 QF (by omega) (by omega) (by rw [Int.toNat_natCast])) ?_
        refine Qj rfl rfl rfl rfl (Qg rfl rfl QD (XH (i := 2) rfl hy (by omega))) ?_
        refine Flow.rel0 rfl rfl rfl rfl (Ql en70 rfl rfl rfl (fun w hw => calls_forget (D := fun r => ∃ A l c d, r = .tuple #[.slice A l c, .bool d] ∧ (d = true ↔ (endsU es es.length).count (srt x y) = 1)) (r15between_calls (hcc _ _ _ _ 3 hw rfl) hE hne (by omega)))) ?_
        rintro _ ⟨Al, ll, cl, d, rfl, hd⟩
        refine Ym ?_
        refine Flow.pur rfl rfl rfl (VD rfl rfl rfl) ?_
        refine Flow.pur rfl rfl rfl (VD rfl rfl rfl) ?_
        refine Flow.pur rfl rfl rfl (QN rfl rfl) ?_
        refine Flow.pur rfl rfl rfl (QN rfl rfl) ?_
        refine Flow.end rfl ?_
        simp only [List.map_cons, List.map_nil, List.nil_append, List.cons_append, List.append_nil]
        refine Fin.then <| DC.seq <| Zs ?_
        refine Zm ?_
        refine Seq.pur rfl rfl (QX rfl rfl) ?_
        refine Zx ?_
        refine DC.cond rfl (fun c26 => ?_) (fun c26 => ?_)
        ·refine Zs ?_
         refine Seq.pur rfl rfl (Qt (cs := #[_, _, _]) rfl rfl bs77 rfl rfl) ?_
         refine Seq.sto rfl rfl (Qq (cs' := #[_, _, _]) rfl rfl rfl Jc rfl (Nat.le_of_ble_eq_true rfl) rfl) ?_
         refine Za ?_
         refine Za ?_
         refine Zx <| DC.ret <| Qc <| Qe <| Qc <| Qc <| Qe <| Qe <| Qc <| Qc <| Qe <| Qc ?_
         have hno : ¬ KuraOk n es := fun h => by
          have := hd.2 (hiff.1 h i j x y hwant hx hy)
          rw [this] at c26; simp at c26
         refine Fin.weak (E' := [(2, .pointer (some ⟨g2, 0, none⟩)), (3, .bool false), (4, .int .i64 0)]) (L' := [blk g2 77 #[.int .i64 0, .slice none 0 0, .slice none 0 0]]) ⟨rfl, rfl, rfl, trivial⟩ (.cons 4 rfl .nil) ?_
         refine XT (cs := #[_, _, _]) (.inl rfl) rfl rfl rfl rfl UN Jc ?_
         exact ⟨[], fun w hw => hw.sub (List.nil_sublist _), rfl, _, _, _, _, _, _, _, false, rfl, by simp [hno]⟩
        ·have hone : (endsU es es.length).count (srt x y) = 1 := hd.1 (by simpa using c26)
         refine DC.skip <| Fin.then <| DC.region ?_
         refine Zf UK ?_
         refine Zl VA ?_
         refine Zm ?_
         refine Seq.new rfl rfl (QG (cs := #[_]) rfl rfl Tryz.underlying25 Xs JU rfl (by decide) (by decide) rfl rfl) fun g132 => ?_
         refine Seq.gen rfl rfl (gen_shapeL (Qy (F := blk g132 44 #[.slice Al ll cl] :: [blk g13 77 #[.int .i64 kd5, .slice (some ad5) B.length c5, .slice Aq (cumK kd5 i + innK kd5 i j) cq], slc (.slice (some ad5) B.length c5) 3 1 (ints B), cc, blk g2 77 #[.int .i64 0, .slice none 0 0, .slice none 0 0]]) (vs := ws) (k := 1) (news := [.slice Al ll cl]) rfl rfl rfl Tryz.underlying25 Xs by44 JU rfl (by decide) (by decide)
          (fun w hw => hw.pick (.cons 1 rfl (.cons 0 rfl (.cons 0 rfl (.cons 0 rfl (.cons 0 rfl (.cons 0 rfl .nil))))))) (.inl ⟨_, _, rfl, Qk rfl⟩) rfl (by intro u hu; simp at hu; subst hu; rfl) (by omega))) ?_
         rintro _ _ ⟨⟨A13, l13, c13, rfl, hl13⟩, rfl⟩
         refine Zf UK ?_
         refine Seq.sto rfl rfl (Qv (cs' := #[_, _, _]) rfl rfl rfl sz25 rfl (Nat.le_of_ble_eq_true rfl) rfl) ?_
         refine Seq.nil <| Fin.inBlock <| Fin.then <| DC.region ?_
         refine Zm ?_
         refine Zp ?_
         refine Za ?_
         refine Seq.nil ?_
         rw [List.length_append, hws] at hl13
         refine Fin.again ⟨j + 1, A13, l13, c13, ws ++ [.slice Al ll cl]⟩ (by dsimp only; omega) ⟨by dsimp only; omega, by dsimp only; omega, by rw [List.length_append, hws]; simp at hl13 ⊢; omega, by dsimp only; rw [innK_yes hwant]; simp at hl13; omega, ?_⟩ ⟨rfl, rfl, rfl, rfl, rfl, trivial⟩ (.cons 0 rfl (.cons 1 rfl (.cons 1 rfl (.cons 1 rfl (.cons 1 rfl .nil)))))
         intro j' y' h hw hy'
         dsimp only at h
         rcases Nat.lt_or_ge j' j with h1 | h1
         ·exact hrow j' y' h1 hw hy'
         ·obtain rfl : j' = j := by omega
          rw [hy] at hy'
          cases hy'
          exact hone
      ·refine DC.exit <| Qd <| Qd <| Qf <| Fin.inBlock <| Fin.then <| DC.region ?_
       refine Zm ?_
       refine Zp ?_
       refine Za ?_
       refine Seq.nil ?_
       have hjB : j = B.length := by simp at c22; omega
       subst hjB
       refine Fin.again ⟨i + 1, Aq, cumK kd5 i + innK kd5 i B.length, cq, ws⟩ (by dsimp only; omega) ⟨by dsimp only; omega, hws, by dsimp only; rw [cumK_next hlen], ?_⟩ ⟨rfl, rfl, rfl, rfl, trivial⟩ (.cons 0 rfl (.cons 0 rfl (.cons 0 rfl (.cons 0 rfl (.cons 0 rfl .nil)))))
       intro i' j' x' y' h hw hx' hy'
       dsimp only at h
       rcases Nat.lt_or_ge i' i with h1 | h1
       ·exact hall i' j' x' y' h1 hw hx' hy'
       ·obtain rfl : i' = i := by omega
        rw [hx] at hx'
        cases hx'
        exact hrow j' y' (List.getElem?_eq_some_iff.1 hy').1 hw hy'
     ·have hiB : i = B.length := by simp at c19; omega
      have hyes : KuraOk n es := hiff.2 fun i' j' x' y' hw hx' hy' => hall i' j' x' y' (by rw [hiB]; exact (List.getElem?_eq_some_iff.1 hx').1) hw hx' hy'
      have hcl : cumK kd5 i = ls.length := by rw [hiB]; exact cumK_end hlen
      refine DC.exit <| Qd <| Qd <| Qf <| Fin.then <| DC.seq ?_
      refine Qu (cl := [.v, .q, .q, .q, .q, .q, .q, .g, .q, .q]) (A := [0, 0, 2, 6, 0, 16, 62, 1, 255, 511]) (order := [0, 1, 2, 3, 4, 5, 6, 7, 8, 9]) ([blk g13 77 #[.int .i64 kd5, .slice (some ad5) B.length c5, .slice Ap (cumK kd5 i) cp]]) mixed (by kernel_rfl) (fun w hw => hw.pick (.cons 1 rfl .nil)) ?_
      refine Qj rfl rfl rfl rfl (Qp (vs := [_, _, _]) rfl rfl UN Jc rfl (Qk rfl)) ?_
      refine Yf UK ?_
      refine Flow.old rfl rfl rfl (Qg rfl rfl VA (XA rfl)) ?_
      refine Flow.pur rfl rfl rfl (Vg rfl rfl Tryz.underlying25) ?_
      refine Ym ?_
      refine Flow.pur rfl rfl rfl (Vg rfl rfl Tryz.underlying25) ?_
      refine Flow.pur rfl rfl rfl (QC rfl rfl rfl) ?_
      refine QM rfl rfl rfl rfl (Qq (cs' := #[_, _, _]) rfl rfl rfl Jc rfl (Nat.le_of_ble_eq_true rfl) rfl) (fun w hw => hw.pick (.cons 1 rfl .nil)) ?_
      refine Flow.pur rfl rfl rfl (QN rfl rfl) ?_
      refine Flow.pur rfl rfl rfl (QN rfl rfl) ?_
      refine Flow.end rfl ?_
      simp only [List.map_cons, List.map_nil, List.nil_append, List.cons_append, List.append_nil]
      refine Fin.then <| DC.ret ?_
      refine Fin.weak (E' := [(2, .pointer (some ⟨g2, 0, none⟩)), (3, _), (4, .int .i64 0)]) (L' := [blk g2 77 #[_, _, _]]) ⟨rfl, rfl, rfl, trivial⟩ (.cons 4 rfl .nil) ?_
      refine XT (cs := #[_, _, _]) (.inl rfl) rfl rfl rfl rfl UN Jc ?_
      exact ⟨[], fun w hw => hw.sub (List.nil_sublist _), rfl, _, _, _, _, _, _, _, _, rfl, by simp [hyes, hcl]⟩
theorem rotR_short {es : List Pr} {ls rs : List (List Int)} {k : Nat} (hR : RotR es ls rs) (hs : ∀ l, l ∈ ls → l.length ≤ k) : ∀ r, r ∈ rs → r.length ≤ k := by
 intro r hr
 obtain ⟨i, hi⟩ := List.mem_iff_getElem?.1 hr
 obtain ⟨l, hl⟩ : ∃ l, ls[i]? = some l := ⟨_, List.getElem?_eq_getElem (by have := (List.getElem?_eq_some_iff.1 hi).1; have := hR.1; omega)⟩
 have h3 := (hR.2 i l _ hl hi).1
 have h4 := hs l (List.mem_of_getElem? hl)
 omega
theorem r11Of_pk {N : Int} {es : List Pr} {ls : List (List Int)} {va v : Value} {w : World} (hg : PrV w va es) (hl : LsV w v ls) (hn : ls.length ≤ 1000000000) (hs : ∀ l, l ∈ ls → l.length ≤ 1000000000) :
  Calls Tryz.prog 32 #[.agg #[.int .i64 N, va], v] w (Ret w [] fun r M => ∃ A k c x e ck rs, r = .tuple #[.slice A k c, .int .i64 x, .int .i64 e] ∧ (e = 0 ↔ RotOk N es ls) ∧ M = [ck] ∧ (RotOk N es ls → LstC ck (.slice A k c) rs ∧ RotR es ls rs)) := by
 refine Calls.mono (r11Of_calls hg hl hs) ?_
 rintro e w' ⟨r, L', rfl, ⟨hok, v, rs, rfl, rfl, hR⟩ | ⟨hno, x, e, rfl, he⟩, hO⟩
 ·obtain ⟨A, len, cap, rfl, hl, _⟩ := Jf hO
  refine ⟨_, [pk (slc (.slice A len cap) 44 1 (rowsV rs) :: rowsC 3 rs)], rfl, ⟨A, len, cap, 0, 0, _, rs.map Prod.snd, rfl, by simp [hok], rfl, fun _ => ⟨?_, hR⟩⟩, own_pk (by simpa using hO)⟩
  intro w0 K w L i hw hi
  have h2 := (own_unpkAt i hi hw).sub (List.sublist_append_left _ _)
  have hlen := hR.1
  rw [List.length_map] at hlen
  refine lsv_slc (F := []) (by simpa using h2) (by omega) (fun p hp => ?_)
  have := rotR_short hR hs _ (List.mem_map_of_mem (f := Prod.snd) hp)
  omega
 ·exact ⟨_, [pk []], rfl, ⟨none, 0, 0, x, e, _, [], rfl, by simp [hno, he], rfl, fun h => absurd h hno⟩, own_pk (by simpa using hO.sub (List.nil_sublist _))⟩
structure G18I where
 i : Nat
theorem r18Graph_calls {N : Int} {pl : Bool} {es cs : List Pr} {ls : List (List Int)} {va v u : Value} {w : World} (hg : PrV w va es) (hv : LsV w v ls) (hu : PrV w u cs) (hn : ls.length ≤ 1000000000) (hs : ∀ l, l ∈ ls → l.length ≤ 2097152) :
  Calls Tryz.prog 13 #[.agg #[.int .i64 N, va], .agg #[.bool pl, v, u]] w (Ret w [] fun r M => M = [] ∧ r = .int .i64 (chkF N es pl ls cs)) := by
 have hs9 : ∀ l, l ∈ ls → l.length ≤ 1000000000 := fun l hl => by have := hs l hl; omega
 have hg0 := hg
 have hv0 := hv
 have hu0 := hu
 obtain ⟨A, cap, rfl, hr, hlc, hcm, hle⟩ := hg
 obtain ⟨Av, capv, rfl, _⟩ := hv
 obtain ⟨Au, capu, rfl, hru, hlu, hcu, hleu⟩ := hu
 refine Qm (K := []) (args := [_, _]) (L := []) Tryz.func13 rfl Tryz.ntmps13 rfl (Own.start _ _) ?_
 refine Zs ?_
 refine Seq.new rfl rfl (QL rfl rfl rfl) fun g2 => ?_
 refine Seq.new rfl rfl (QL rfl rfl rfl) fun g3 => ?_
 refine Za ?_
 refine Zx <| Zs ?_
 refine Seq.val rfl rfl (Qp (vs := [_, _]) rfl rfl Xg Xa rfl (Qk rfl)) ?_
 refine Seq.rel0 rfl rfl (Ql en14 rfl rfl rfl (fun w hw => XJ (hg0.keep0 hw))) ?_
 rintro _ ⟨b1, rfl, hb1⟩
 refine Za ?_
 refine Zx <| DC.seq <| Zs ?_
 refine Zm ?_
 refine Seq.pur rfl rfl (QX rfl rfl) ?_
 refine Zx ?_
 refine DC.cond rfl (fun c2 => ?_) (fun c2 => ?_)
 ·have hx : chkF N es pl ls cs = 1 := by
   unfold chkF
   rw [if_pos (fun h => by rw [hb1.2 h] at c2; simp at c2)]
  refine Zs ?_
  refine Za ?_
  refine Zx <| DC.ret <| Qc ?_
  refine Fin.weak (E' := [(4, _)]) (L' := []) ⟨rfl, trivial⟩ .nil ?_
  refine Qi (.inl rfl) rfl rfl ?_
  exact ⟨rfl, by rw [hx]⟩
 ·have hV : Vld N es := hb1.1 (by simpa using c2)
  obtain ⟨n, rfl⟩ : ∃ n : Nat, N = n := ⟨N.toNat, by have := hV.lo; omega⟩
  refine DC.skip <| Fin.then <| Zs ?_
  refine Seq.val rfl rfl (Qp (vs := [_, _, _]) rfl rfl ag27 sz27 rfl (Qk rfl)) ?_
  refine Seq.rel0 rfl rfl (Ql en31 rfl rfl rfl (fun w hw => r17Print_calls (hv0.keep0 hw) (hu0.keep0 hw) hs)) ?_
  rintro _ ⟨s4, e4, rfl, he4⟩
  refine Zm ?_
  refine Ze ?_
  refine Ze ?_
  refine Za ?_
  refine Za ?_
  refine Zx <| DC.seq <| Zs ?_
  refine Zm ?_
  refine Seq.pur rfl rfl (XG rfl rfl rfl) ?_
  refine Zx ?_
  refine DC.cond rfl (fun c5 => ?_) (fun c5 => ?_)
  ·have hx : chkF n es pl ls cs = 181 := by
    unfold chkF
    rw [if_neg (not_not_intro hV), if_pos (fun h => by rw [he4.2 h] at c5; simp at c5)]
   refine Zs ?_
   refine Za ?_
   refine Zx <| DC.ret <| Qc ?_
   refine Fin.weak (E' := [(4, _)]) (L' := []) ⟨rfl, trivial⟩ .nil ?_
   refine Qi (.inl rfl) rfl rfl ?_
   exact ⟨rfl, by rw [hx]⟩
  ·have hT : TextOk pl ls cs := he4.1 (by simpa using c5)
   refine DC.skip <| Fin.then <| DC.seq <| Zs ?_
   refine Zf Vz ?_
   refine Zl ag4 ?_
   refine Zx ?_
   refine DC.cond rfl (fun c7 => ?_) (fun c7 => ?_)
   ·have hpl : pl = true := by simpa using c7
    refine Zs ?_
    refine Seq.val rfl rfl (Qp (vs := [_, _]) rfl rfl Xg Xa rfl (Qk rfl)) ?_
    refine Zf Jq ?_
    refine Zl VA ?_
    refine Seq.rel rfl rfl (Ql en32 rfl rfl rfl (fun w hw => r11Of_pk (hg0.keep0 hw) (hv0.keep0 hw) hn hs9)) ?_
    rintro _ _ ⟨A8, k8, c8, x8, e8, ck, rs, rfl, he8, rfl, hck⟩
    refine Zm ?_
    refine Ze ?_
    refine Ze ?_
    refine Ze ?_
    refine Za ?_
    refine Za ?_
    refine Za ?_
    refine Zx <| DC.seq <| DC.seq ?_
    simp only [List.cons_append, List.nil_append]
    refine DC.region ?_
    refine Zm ?_
    refine Seq.pur rfl rfl (XG rfl rfl rfl) ?_
    refine Zx ?_
    refine DC.cond rfl (fun c9 => ?_) (fun c9 => ?_)
    ·have hx : chkF n es pl ls cs = 182 := by
      unfold chkF
      rw [if_neg (not_not_intro hV), if_neg (not_not_intro hT), if_pos hpl, if_pos (fun h => by rw [he8.2 h] at c9; simp at c9)]
     refine Zs ?_
     refine Za ?_
     refine Zx <| DC.ret <| Qc <| Qc ?_
     refine Fin.weak (E' := [(4, _)]) (L' := []) ⟨rfl, trivial⟩ .nil ?_
     refine Qi (.inl rfl) rfl rfl ?_
     exact ⟨rfl, by rw [hx]⟩
    ·have hok : RotOk n es ls := he8.1 (by simpa using c9)
     obtain ⟨hck, hR⟩ := hck hok
     refine DC.skip <| Fin.then <| Zs ?_
     refine Seq.val rfl rfl (Qp (vs := [_, _]) rfl rfl Xg Xa rfl (Qk rfl)) ?_
     refine Zm ?_
     refine Seq.rel0 rfl rfl (Ql en26 rfl rfl rfl (fun w hw => calls_forget (D := fun r => ∃ b f, r = .bool b ∧ NxOk rs rs.length f ∧ (b = true ↔ genus2 n es f = 0)) (r12Flat_calls (hg0.keep0 hw) (hck _ _ _ _ 0 hw rfl) (rotR_short hR hs9) (rotL_of hok hR)))) ?_
     rintro _ ⟨b11, f11, rfl, hnx, hb11⟩
     refine Za ?_
     refine Zx <| DC.seq <| DC.seq ?_
     have hfl : b11 = true ↔ FlatP n es ls := flatR_iff hok ⟨rs, f11, hR, hnx, hb11⟩
     refine DC.region ?_
     refine Zm ?_
     refine Seq.pur rfl rfl (QX rfl rfl) ?_
     refine Zx ?_
     refine DC.cond rfl (fun c12 => ?_) (fun c12 => ?_)
     ·have hx : chkF n es pl ls cs = 183 := by
       unfold chkF
       rw [if_neg (not_not_intro hV), if_neg (not_not_intro hT), if_pos hpl, if_neg (not_not_intro hok), if_pos (fun h => by rw [Int.toNat_natCast] at h; rw [hfl.2 h] at c12; simp at c12)]
      refine Zs ?_
      refine Za ?_
      refine Zx <| DC.ret <| Qc <| Qc ?_
      refine Fin.weak (E' := [(4, _)]) (L' := []) ⟨rfl, trivial⟩ .nil ?_
      refine Qi (.inl rfl) rfl rfl ?_
      exact ⟨rfl, by rw [hx]⟩
     ·have hx : chkF n es pl ls cs = 0 := by
       unfold chkF
       rw [if_neg (not_not_intro hV), if_neg (not_not_intro hT), if_pos hpl, if_neg (not_not_intro hok), if_neg (not_not_intro (by rw [Int.toNat_natCast]; exact hfl.1 (by simpa using c12)))]
      refine DC.skip <| Fin.then <| Zs ?_
      refine Za ?_
      refine Zx <| DC.ret <| Qc ?_
      refine Fin.weak (E' := [(4, _)]) (L' := []) ⟨rfl, trivial⟩ .nil ?_
      refine Qi (.inl rfl) rfl rfl ?_
      exact ⟨rfl, by rw [hx]⟩
   ·have hpl : pl = false := by simpa using c7
    refine DC.skip <| Fin.then <| DC.seq <| Zs ?_
    refine Za ?_
    refine Zx <| DC.block ?_
    have hE : EdgesOk cs := by
     have := hT.1
     rw [hpl] at this
     exact this.2
    refine DC.loop (ι := G18I) (fun q => q.i ≤ cs.length ∧ ∀ c, c ∈ cs.take q.i → c ∈ es) (fun q => [(2, .pointer (some ⟨g2, 0, none⟩)), (3, .pointer (some ⟨g3, 0, none⟩)), (12, .int .i64 (q.i : Nat))])
     (fun _ => [blk g3 27 #[.bool pl, .slice Av ls.length capv, .slice Au cs.length capu], blk g2 24 #[.int .i64 n, .slice A es.length cap]]) (fun q => cs.length - q.i) ⟨0⟩ ⟨Nat.zero_le _, by simp⟩ ⟨rfl, rfl, rfl, trivial⟩ (.cons 0 rfl (.cons 0 rfl .nil)) ?_
    rintro ⟨i⟩ ⟨hi, hin⟩
    dsimp only at hi hin ⊢
    refine DC.seq <| Zs ?_
    refine Zm ?_
    refine Zf JC ?_
    refine Zl Xi ?_
    refine Zn Tryz.underlying22 ?_
    refine Zc ?_
    refine Zx ?_
    refine DC.cond rfl (fun c16 => ?_) (fun c16 => ?_)
    ·have hic : i < cs.length := by simpa using c16
     obtain ⟨x, hx⟩ : ∃ x, cs[i]? = some x := ⟨_, List.getElem?_eq_getElem hic⟩
     obtain ⟨ad, rfl, cx, cy⟩ := hru.pair hx
     refine DC.skip <| Fin.then <| DC.seq <| DC.block <| DC.seq ?_
     refine Qu (cl := [.v, .q, .v, .q, .q, .v, .r, .q]) (A := [0, 0, 2, 0, 14, 30, 63, 127]) (order := [0, 1, 2, 3, 4, 5, 6, 7]) [] mixed (by kernel_rfl) (fun w hw => hw.pick .nil) ?_
     refine Qj rfl rfl rfl rfl (Qp (vs := [_, _]) rfl rfl Xg Xa rfl (Qk rfl)) ?_
     refine Yf JC ?_
     refine Yl Xi ?_
     refine Ym ?_
     refine Flow.pur rfl rfl rfl (Qw (ad' := ad.add (i * 2)) rfl rfl rfl Tryz.underlying22 QS (by omega) (by omega) rfl) ?_
     refine Qj rfl rfl rfl rfl (Qp (vs := [_, _]) rfl rfl JE QS rfl (Jm cx cy (by simp))) ?_
     refine Flow.rel0 rfl rfl rfl rfl (Ql en33 rfl rfl rfl (fun w hw => r3Find_calls (hg0.keep0 hw) hV)) ?_
     rintro _ ⟨k18, rfl, hk18⟩
     refine Flow.pur rfl rfl rfl (QN rfl rfl) ?_
     refine Flow.end rfl ?_
     simp only [List.map_cons, List.map_nil, List.nil_append, List.cons_append, List.append_nil]
     refine Fin.then <| Zs ?_
     refine Zm ?_
     refine Zc ?_
     refine Zx ?_
     refine DC.cond rfl (fun c19 => ?_) (fun c19 => ?_)
     ·have hx : chkF n es pl ls cs = 184 := by
       unfold chkF
       rw [if_neg (not_not_intro hV), if_neg (not_not_intro hT), if_neg (by rw [hpl]; decide), if_pos (fun h => by have := hk18.2 (h x (List.mem_of_getElem? hx)); simp at c19; omega)]
      refine Zs ?_
      refine Za ?_
      refine Zx <| DC.ret <| Qe <| Qc <| Qc <| Qe <| Qc ?_
      refine Fin.weak (E' := [(4, _)]) (L' := []) ⟨rfl, trivial⟩ .nil ?_
      refine Qi (.inl rfl) rfl rfl ?_
      exact ⟨rfl, by rw [hx]⟩
     ·have hxin : x ∈ es := hk18.1 (by simp at c19; omega)
      refine DC.skip <| Fin.inBlock <| Fin.then <| DC.region ?_
      refine Zm ?_
      refine Zp ?_
      refine Za ?_
      refine Seq.nil ?_
      refine Fin.again ⟨i + 1⟩ (by dsimp only; omega) ⟨by dsimp only; omega, ?_⟩ ⟨rfl, rfl, rfl, trivial⟩ (.cons 0 rfl (.cons 0 rfl .nil))
      dsimp only
      intro c hc
      rw [List.take_add_one, hx, List.mem_append] at hc
      rcases hc with hc | hc
      ·exact hin c hc
      ·simp at hc; subst hc; exact hxin
    ·refine DC.exit <| Qd <| Qd <| Qf <| Fin.then <| DC.seq ?_
     have hic : i = cs.length := by simp at c16; omega
     subst hic
     rw [List.take_length] at hin
     have hVc : Vld n cs := vld_sub hV hE hin
     refine DC.region ?_
     refine Zf Xt ?_
     refine Zl QD ?_
     refine Zf JC ?_
     refine Zl Xi ?_
     refine Seq.pur rfl rfl (Qt (cs := #[_, _]) rfl rfl bs24 rfl rfl) ?_
     refine Seq.rel0 rfl rfl (Ql en34 rfl rfl rfl (fun w hw => r15Recognise_calls (hu0.keep0 hw) hVc)) ?_
     rintro _ ⟨kd, A9, l9, c9, A9', l9', c9', b9, rfl, hb9⟩
     refine Zm ?_
     refine Ze ?_
     refine Ze ?_
     refine Ze ?_
     refine Seq.new rfl rfl (QE rfl ze77 rfl) fun g14 => ?_
     refine Seq.sto rfl rfl (Qq (cs' := #[_, _, _]) rfl rfl rfl Jc rfl (Nat.le_of_ble_eq_true rfl) rfl) ?_
     refine Za ?_
     refine Za ?_
     refine Zx <| DC.seq <| Zs ?_
     refine Zm ?_
     refine Seq.pur rfl rfl (QX rfl rfl) ?_
     refine Zx ?_
     refine DC.cond rfl (fun c22 => ?_) (fun c22 => ?_)
     ·have hx : chkF n es pl ls cs = 185 := by
       unfold chkF
       rw [if_neg (not_not_intro hV), if_neg (not_not_intro hT), if_neg (by rw [hpl]; decide), if_neg (not_not_intro hin), if_pos (fun h => by rw [Int.toNat_natCast] at h; rw [hb9.2 h] at c22; simp at c22)]
      refine Zs ?_
      refine Za ?_
      refine Zx <| DC.ret <| Qc ?_
      refine Fin.weak (E' := [(4, _)]) (L' := []) ⟨rfl, trivial⟩ .nil ?_
      refine Qi (.inl rfl) rfl rfl ?_
      exact ⟨rfl, by rw [hx]⟩
     ·have hx : chkF n es pl ls cs = 0 := by
       unfold chkF
       rw [if_neg (not_not_intro hV), if_neg (not_not_intro hT), if_neg (by rw [hpl]; decide), if_neg (not_not_intro hin), if_neg (not_not_intro (by rw [Int.toNat_natCast]; exact hb9.1 (by simpa using c22)))]
      refine DC.skip <| Fin.then <| Zs ?_
      refine Za ?_
      refine Zx <| DC.ret ?_
      refine Fin.weak (E' := [(4, _)]) (L' := []) ⟨rfl, trivial⟩ .nil ?_
      refine Qi (.inl rfl) rfl rfl ?_
      exact ⟨rfl, by rw [hx]⟩
theorem LGraph_calls {N : Int} {es cs : List Pr} {pl : Bool} {ls : List (List Int)} {va v u : Value} {w : World} (hg : PrV w va es) (hv : LsV w v ls) (hu : PrV w u cs) (hp : Pow w) (hn : ls.length ≤ 1000000000) (hs : ∀ l, l ∈ ls → l.length ≤ 2097152) :
  Calls Tryz.prog 3 #[.agg #[.int .i64 N, va], .agg #[.bool pl, v, u]] w (Ret w [] fun r M => r = .bool true) := by
 have hs9 : ∀ l, l ∈ ls → l.length ≤ 1000000000 := fun l hl => by have := hs l hl; omega
 have hel : es.length ≤ 8796093021952 := by obtain ⟨_, _, _, _, _, _, h⟩ := hg; exact h
 have hg0 := hg
 have hv0 := hv
 have hu0 := hu
 obtain ⟨A, cap, rfl, _⟩ := hg0
 obtain ⟨Al, cl, rfl, _⟩ := hv0
 obtain ⟨Ac, cc, rfl, _⟩ := hu0
 refine Qm (K := []) (args := [_, _]) (L := []) Tryz.func3 rfl Tryz.ntmps3 rfl (Own.start _ _) ?_
 refine Zs ?_
 refine Seq.new rfl rfl (QL rfl rfl rfl) fun g2 => ?_
 refine Seq.new rfl rfl (QL rfl rfl rfl) fun g3 => ?_
 refine Za ?_
 refine Zx <| DC.seq <| Zs ?_
 refine Seq.rel0 rfl rfl (Ql en9 rfl rfl rfl (fun w hw => wakes_calls (hp.keep0 hw))) ?_
 rintro _ rfl
 refine Seq.pur rfl rfl (QX rfl rfl) ?_
 refine Zx ?_
 refine DC.cond rfl (fun c1 => ?_) (fun c1 => ?_)
 ·simp at c1
 ·refine DC.skip <| Fin.then <| DC.seq ?_
  refine Qu (cl := [.v, .r, .v, .r, .r, .v, .v, .r, .q, .q]) (A := [0, 1, 0, 7, 15, 0, 0, 127, 255, 511]) (order := [0, 1, 2, 3, 4, 5, 6, 7, 8, 9]) [] mixed (by kernel_rfl) (fun w hw => hw.pick .nil) ?_
  refine Qj rfl rfl rfl rfl (Qp (vs := [_, _]) rfl rfl Xg Xa rfl (Qk rfl)) ?_
  refine Jr rfl rfl rfl rfl (Ql en11 rfl rfl rfl (fun w hw => r3Copy_slc (hg.keep0 hw))) ?_
  rintro _ _ ⟨A31, c31, rfl, rfl⟩
  refine Qj rfl rfl rfl rfl (Qp (vs := [_, _, _]) rfl rfl ag27 sz27 rfl (Qk rfl)) ?_
  refine Jr rfl rfl rfl rfl (Ql en12 rfl rfl rfl (fun w hw => r17Copy_pk (hv.keep0 hw) (hu.keep0 hw) hn hs9)) ?_
  rintro _ _ ⟨Av, lv, cv, Au, lu, cu, c33, rfl, rfl, hcc⟩
  refine Flow.rel0V (V := [c33, slc (.slice A31 es.length c31) 43 2 (prs es), blk g3 27 #[.bool pl, .slice Al ls.length cl, .slice Ac cs.length cc], blk g2 24 #[.int .i64 N, .slice A es.length cap]]) rfl rfl rfl rfl (by kernel_rfl) (Ql en10 rfl rfl rfl (fun w hw => Graph_calls (VT hw 1 rfl hel) (hcc _ _ _ _ 0 hw rfl).1 (hcc _ _ _ _ 0 hw rfl).2 (hp.keep0 hw) hs)) ?_
  rintro _ rfl
  refine Qj rfl rfl rfl rfl (Qp (vs := [_, _]) rfl rfl Xg Xa rfl (Qk rfl)) ?_
  refine Qj rfl rfl rfl rfl (Qp (vs := [_, _, _]) rfl rfl ag27 sz27 rfl (Qk rfl)) ?_
  refine Flow.rel0 rfl rfl rfl rfl (Ql en13 rfl rfl rfl (fun w hw => r18Graph_calls (hg.keep0 hw) (hv.keep0 hw) (hu.keep0 hw) hn hs)) ?_
  rintro _ rfl
  refine Flow.pur rfl rfl rfl (QC rfl rfl rfl) ?_
  refine Flow.pur rfl rfl rfl (QN rfl rfl) ?_
  refine Flow.end rfl ?_
  simp only [List.map_cons, List.map_nil, List.nil_append, List.cons_append, List.append_nil]
  refine Fin.then <| DC.ret ?_
  refine Fin.weak (E' := [(4, _)]) (L' := []) ⟨rfl, trivial⟩ .nil ?_
  refine Qi (.inl rfl) rfl rfl ?_
  simp
end Go.Fl

namespace Go.Fl
open Go Go.ChangeShapes Go.WideShapes Go.Deep
section
variable {H : Type} {enc : TypeId × Value → H} {P : Program} {W : World} {held : Bool}
def Light (P : Program) (t : TypeId) (d : DataW H) : Prop := ∀ n ∈ d.weights P t, n ≤ reachBytes
theorem open_pr {t e : TypeId} {f0 f1 : Field} {n : Nat} {v : Value} {y : DataW H × List MemPlace} (ht : P.underlying t = some (.slice e)) (he : P.underlying e = some (.struct #[f0, f1])) (ce : P.cellsOf e = 2) (o0 : f0.offset = 0) (o1 : f1.offset = 1)
  (c0 : P.cellsOf f0.type = 1) (c1 : P.cellsOf f1.type = 1) (i0 : P.underlying f0.type = some (.int .i64)) (i1 : P.underlying f1.type = some (.int .i64)) (hb : P.bytesOf e = 16)
  (h : DataW.trod enc P W 0 (fun _ => true) held n t [v] = some y) (hw : Light P t y.1) : ∃ es, PrV W v es ∧ ∀ x ∈ es, (Lit.int .i64 x.1).wf = true ∧ (Lit.int .i64 x.2).wf = true := by
 rcases open_slice_pairs ht he ce o0 o1 c0 c1 h with ⟨h1, h2⟩ | ⟨a, len, cap, m, n', V0, V1, D0, D1, P0, P1, h1, h2, h3, h4, h5, h6, h7⟩
 ·cases h1
  exact ⟨[], ⟨none, 0, rfl, fun j u hj => by simp [prs] at hj, Nat.le_refl _, by omega, by simp⟩, by simp⟩
 ·cases h1
  simp only [if_true] at h5
  subst h5 h6
  have hwt : (len + (m - len)) * 16 ≤ reachBytes := hw _ (by simp [DataW.weights, ht, hb])
  have hr : reachBytes = 140737488351232 := by decide
  simp only [maxLen] at h4
  have hV : ∀ i, i < len → ∃ q : Pr, W.cell? (a.add (i * 2)) = some (.int .i64 q.1) ∧ W.cell? (a.add (i * 2 + 1)) = some (.int .i64 q.2) ∧ (Lit.int .i64 q.1).wf = true ∧ (Lit.int .i64 q.2).wf = true := by
   intro i hi
   obtain ⟨k0, k1, k2, k3⟩ := h7 i (by omega)
   obtain ⟨x, hx, _, hxw⟩ := DataW.trod_int i0 k2
   obtain ⟨z, hz, _, hzw⟩ := DataW.trod_int i1 k3
   rw [(List.cons.inj hx).1] at k0
   rw [(List.cons.inj hz).1] at k1
   exact ⟨(x, z), k0, k1, hxw, hzw⟩
  obtain ⟨q, hq⟩ := choose_lt hV
  have hl : ((List.range len).map q).length = len := by simp
  have hg : ∀ (es : List Pr) (i : Nat) (u : Value), (prs es)[i]? = some u → ∃ p : Pr, es[i / 2]? = some p ∧ u = .int .i64 (if i % 2 = 0 then p.1 else p.2) := by
   intro es
   induction es with
   | nil => intro i u h; simp [prs] at h
   | cons e r ih =>
    intro i u h
    match i, h with
    | 0, h => simp [prs] at h; exact ⟨e, by simp, by simp [h]⟩
    | 1, h => simp [prs] at h; exact ⟨e, by simp, by simp [h]⟩
    | i + 2, h =>
     simp only [prs, List.getElem?_cons_succ] at h
     obtain ⟨p, hp, hu⟩ := ih i u h
     refine ⟨p, by rw [show (i + 2) / 2 = i / 2 + 1 by omega, List.getElem?_cons_succ]; exact hp, by rw [hu]; congr 1; rw [show (i + 2) % 2 = i % 2 by omega]⟩
  refine ⟨(List.range len).map q, ⟨some a, m, by rw [hl], fun j u hj => ⟨a, rfl, ?_⟩, by rw [hl]; omega, by omega, by rw [hl]; omega⟩, fun x hx => ?_⟩
  ·obtain ⟨p, hp, hu⟩ := hg _ _ _ hj
   have hj2 := (List.getElem?_eq_some_iff.1 hp).1
   simp only [hl] at hj2
   obtain ⟨g0, g1, _, _⟩ := hq (j / 2) hj2
   rw [List.getElem?_map, List.getElem?_range hj2] at hp
   simp only [Option.map_some, Option.some.injEq] at hp
   subst hp hu
   by_cases hm : j % 2 = 0
   ·rw [if_pos hm, ← g0]; congr 2; omega
   ·rw [if_neg hm, ← g1]; congr 2; omega
  ·simp only [List.mem_map, List.mem_range] at hx
   obtain ⟨i, hi, rfl⟩ := hx
   exact (hq i hi).2.2
theorem light_agg {t : TypeId} {fs : Array Field} {parts : List (DataW H)} (ht : P.underlying t = some (.struct fs)) (h : Light P t (.agg parts)) : ∀ n ∈ DataW.weightsEach P (fs.toList.map (·.type)) parts, n ≤ reachBytes := by
 intro n hn
 exact h n (by simp only [DataW.weights, ht]; exact hn)
theorem light_cons {t : TypeId} {ts : List TypeId} {d : DataW H} {r : List (DataW H)} (h : ∀ n ∈ DataW.weightsEach P (t :: ts) (d :: r), n ≤ reachBytes) : Light P t d ∧ ∀ n ∈ DataW.weightsEach P ts r, n ≤ reachBytes :=
 ⟨fun n hn => h n (by simp only [DataW.weightsEach, List.mem_append]; exact .inl hn), fun n hn => h n (by simp only [DataW.weightsEach, List.mem_append]; exact .inr hn)⟩
theorem light_all {ts : List TypeId} {ds : List (DataW H)} (h : (DataW.weightsEach P ts ds).all (· ≤ reachBytes) = true) : ∀ n ∈ DataW.weightsEach P ts ds, n ≤ reachBytes :=
 fun n hn => by simpa using List.all_eq_true.1 h n hn
theorem own_belowO {w w' : World} {L : List Chunk} (h : Own w [] w' L) : RowKit.Below w.heap.size w w' := ⟨h.os, h.tape, h.output, h.size, fun k hk => h.old k hk (by simp)⟩
end
end Go.Fl

namespace Go.Fl
open Go Go.Proofs Go.ChangeShapes Go.WideShapes Go.Deep Go.Joins
open Go.Proofs.YthjmapekjggdjaaGreatDoor.Rows
section
variable {H : Type} {enc : TypeId × Value → H} {W : World}
theorem bulk_mem {ds : List (DataW H)} {d : DataW H} (h : d ∈ ds) : uptoBulk d ≤ uptoBulkAll ds := by
 induction ds with
 | nil => cases h
 | cons a r ih =>
  rw [uptoBulkAll]
  rcases List.mem_cons.1 h with rfl | h
  ·omega
  ·have := ih h; omega
theorem bulk_pos (d : DataW H) : 1 ≤ uptoBulk d := by
 cases d with
 | lit l => cases l <;> simp [uptoBulk]
 | _ => simp [uptoBulk]
theorem bulk_len (ds : List (DataW H)) : ds.length ≤ uptoBulkAll ds := by
 induction ds with
 | nil => simp [uptoBulkAll]
 | cons a r ih => rw [uptoBulkAll, List.length_cons]; have := bulk_pos a; omega
theorem open_listB {n B : Nat} {v : Value} {y : DataW H × List MemPlace} (h : DataW.trod enc Tryz.prog W 0 (fun _ => true) true n 44 [v] = some y) (hb : uptoBulk y.1 ≤ B) (hB : B ≤ 1048576) : ∃ xs, SlV W v xs ∧ xs.length ≤ B := by
 rcases open_ints Tryz.underlying44 Tryz.underlying3 (by kernel_rfl) h with ⟨h1, h2⟩ | ⟨a, len, cap, zs, h1, h2, h3, h4, h5, h6, h7, h8⟩
 ·cases h1
  exact ⟨[], ⟨none, 0, rfl, fun j u hj => by simp [ints] at hj, Nat.le_refl _, by omega, by simp⟩, by simp⟩
 ·cases h1
  simp only [if_true] at h5
  subst h6
  have hl := bulk_len (lits (H := H) .i64 (zs.take len))
  have hlen : (zs.take len).length = len := by simp; omega
  have hll : (lits (H := H) .i64 (zs.take len)).length = len := by rw [← hlen]; simp [lits]
  rw [uptoBulk] at hb
  simp only [maxLen] at h4
  refine ⟨zs.take len, ⟨some a, cap, by rw [hlen], fun j u hj => ⟨a, rfl, ?_⟩, by omega, by omega, by omega⟩, by omega⟩
  have hj2 := (List.getElem?_eq_some_iff.1 hj).1
  simp only [ints_length, hlen] at hj2
  have h9 := h7 j (by omega)
  rw [h9, ← hj]
  simp [ints, List.getElem?_take, hj2, List.getElem?_eq_getElem (show j < zs.length by omega)]
theorem open_lists {n B : Nat} {v : Value} {y : DataW H × List MemPlace} (h : DataW.trod enc Tryz.prog W 0 (fun _ => true) true n 25 [v] = some y) (hb : uptoBulk y.1 ≤ B) (hB : B ≤ 1048576) :
  ∃ ls, LsV W v ls ∧ ls.length ≤ B ∧ ∀ l, l ∈ ls → l.length ≤ B := by
 rcases open_slice Tryz.underlying25 h with ⟨h1, h2⟩ | ⟨a, len, cap, m, k, D, Pl, h1, h2, h3, h4, h5, h6, h7⟩
 ·cases h1
  exact ⟨[], ⟨none, 0, rfl, fun i l hi => by simp at hi, Nat.le_refl _, by omega, by simp⟩, by simp, by simp⟩
 ·cases h1
  simp only [if_true] at h5
  subst h5 h6
  simp only [maxLen] at h4
  rw [uptoBulk] at hb
  have hl := bulk_len ((List.range len).map D)
  rw [List.length_map, List.length_range] at hl
  have hce : Tryz.prog.cellsOf 44 = 1 := by kernel_rfl
  have hV : ∀ i, i < len → ∃ q : Value × List Int, W.cell? (a.add i) = some q.1 ∧ SlV W q.1 q.2 ∧ q.2.length ≤ B := by
   intro i hi
   obtain ⟨cs', k1, k2⟩ := h7 i (by omega)
   rw [hce, Nat.mul_one] at k1
   obtain ⟨_, hlen, hcell⟩ := World.cells?_some k1
   match cs', hlen with
   | [u], _ =>
    have hD : uptoBulk (D i) ≤ B := by
     have := bulk_mem (ds := (List.range len).map D) (d := D i) (List.mem_map.2 ⟨i, List.mem_range.2 hi, rfl⟩)
     omega
    obtain ⟨xs, hx, hxl⟩ := open_listB (B := B) k2 hD hB
    have h0 := hcell 0 (by omega)
    refine ⟨(u, xs), ?_, hx, hxl⟩
    have e : (a.add i).add 0 = a.add i := by simp [Addr.add]
    rw [e] at h0
    simpa using h0
  obtain ⟨q, hq⟩ := choose_lt hV
  refine ⟨(List.range len).map fun i => (q i).2, ⟨some a, m, by simp, fun i l hi => ?_, by simp; omega, by omega, by simp; omega⟩, by simp; omega, fun l hl => ?_⟩
  ·have hi2 := (List.getElem?_eq_some_iff.1 hi).1
   simp only [List.length_map, List.length_range] at hi2
   rw [List.getElem?_map, List.getElem?_range hi2] at hi
   simp only [Option.map_some, Option.some.injEq] at hi
   subst hi
   exact ⟨a, (q i).1, rfl, (hq i hi2).1, (hq i hi2).2.1⟩
  ·simp only [List.mem_map, List.mem_range] at hl
   obtain ⟨i, hi, rfl⟩ := hl
   exact (hq i hi).2.2
theorem open_edgesB {n : Nat} {v : Value} {y : DataW H × List MemPlace} (h : DataW.trod enc Tryz.prog W 0 (fun _ => true) true n 22 [v] = some y) (hw : Light Tryz.prog 22 y.1) : ∃ es, PrV W v es ∧ ∀ x ∈ es, (Lit.int .i64 x.1).wf = true ∧ (Lit.int .i64 x.2).wf = true :=
 open_pr Tryz.underlying22 Tryz.underlying43 (by kernel_rfl) rfl rfl (by kernel_rfl) (by kernel_rfl) Tryz.underlying3 Tryz.underlying3 (by kernel_rfl) h hw
theorem open_graphB {b : Nat} {v : Value} {d : DataW H} {p : List MemPlace} (hv : Value.okWide Tryz.prog W .any b 24 v) (h : DataW.Trod enc Tryz.prog W 0 (fun _ => true) true 24 v d p) (hw : Light Tryz.prog 24 d) :
  ∃ N va es, v = .agg #[.int .i64 N, va] ∧ PrV W va es ∧ (Lit.int .i64 N).wf = true ∧ ∀ x ∈ es, (Lit.int .i64 x.1).wf = true ∧ (Lit.int .i64 x.2).wf = true := by
 obtain ⟨v0, v1, y0, y1, n, rfl, rfl, rfl, h0, h1⟩ := open_agg2 Tryz.underlying24 (by kernel_rfl) (by kernel_rfl) hv h
 obtain ⟨_, w1⟩ := light_cons (light_agg Tryz.underlying24 hw)
 obtain ⟨w1, _⟩ := light_cons w1
 obtain ⟨N, hN, _, hNw⟩ := DataW.trod_int Tryz.underlying3 h0
 obtain ⟨es, hes, hew⟩ := open_edgesB h1 w1
 exact ⟨N, v1, es, by rw [(List.cons.inj hN).1], hes, hNw, hew⟩
theorem open_cert {b : Nat} {v : Value} {d : DataW H} {p : List MemPlace} (hv : Value.okWide Tryz.prog W .any b 27 v) (h : DataW.Trod enc Tryz.prog W 0 (fun _ => true) true 27 v d p) (hw : Light Tryz.prog 27 d) (hb : uptoBulk d ≤ 1048576) :
  ∃ pl ls cs v1 v2, v = .agg #[.bool pl, v1, v2] ∧ LsV W v1 ls ∧ PrV W v2 cs ∧ ls.length ≤ 1048576 ∧ ∀ l, l ∈ ls → l.length ≤ 1048576 := by
 obtain ⟨v0, v1, v2, y0, y1, y2, n, rfl, rfl, rfl, h0, h1, h2⟩ := open_agg3 Tryz.underlying27 (by kernel_rfl) (by kernel_rfl) hv h
 obtain ⟨_, w1⟩ := light_cons (light_agg Tryz.underlying27 hw)
 obtain ⟨_, w2⟩ := light_cons w1
 obtain ⟨w2, _⟩ := light_cons w2
 have hb1 : uptoBulk y1.1 ≤ 1048576 := by
  rw [uptoBulk] at hb
  have := bulk_mem (ds := [y0.1, y1.1, y2.1]) (d := y1.1) (by simp)
  omega
 obtain ⟨pl, hp, _⟩ := DataW.trod_bool Tryz.underlying4 h0
 obtain ⟨ls, hls, h3, h4⟩ := open_lists h1 hb1 (Nat.le_refl _)
 obtain ⟨cs, hcs, _⟩ := open_edgesB h2 w2
 exact ⟨pl, ls, cs, v1, v2, by rw [(List.cons.inj hp).1], hls, hcs, h3, h4⟩
theorem laidB : laidOutB Tryz.prog = true := by kernel_rfl
theorem staysB {t : TypeId} {v : Value} {d : DataW H} {p : List MemPlace} {W' : World} {L : List Chunk} (hr : Tryz.prog.readableRec t = true) (hrow : t < Tryz.prog.types.size) (h : DataW.Trod enc Tryz.prog W 0 (fun _ => true) true t v d p)
  (hO : Own W [] W' L) (hlt : ∀ x ∈ p, x.block < W.heap.size) : DataW.Trod enc Tryz.prog W' 0 (fun b => decide (b < W.heap.size)) true t v d p :=
 RowKit.Below.trod laidB hr hrow h (own_belowO hO) hlt
end
/-- What the rows list of package-level variables. -/
def laid3 : List (String × DataW Unit) := [("math/bits.deBruijn32tab", laid_math_bits_deBruijn32tab), ("math/bits.deBruijn64tab", laid_math_bits_deBruijn64tab), ("internal/strconv.uint64pow10", laid_internal_strconv_uint64pow10)]
theorem pow_of {W : World} (h : laidMetH Tryz.prog laid3 W) : Pow W := by
 rw [MakeChecks.laidMetH_plain _ _ _ (by kernel_rfl)] at h
 obtain ⟨g, t, cs, fuel, p, hg, ht, hvar, hd⟩ := Lib.laidMet.reads h (n := "internal/strconv.uint64pow10") (d := laid_internal_strconv_uint64pow10) (by simp [laid3])
 obtain rfl := Option.some.inj ((show Tryz.prog.globalNamed "internal/strconv.uint64pow10" = some 1 by kernel_rfl).symm.trans hg)
 obtain rfl := Option.some.inj ((show (Tryz.prog.globals[1]?).map (·.type) = some 265 by kernel_rfl).symm.trans ht)
 unfold Pow Lib.TabIs
 rw [hvar, ← Lib.cells_of_tab (zs := Lib.pow10Tab) Tryz.underlying265 Tryz.underlying221 (by kernel_rfl) (by kernel_rfl) hd]
end Go.Fl

namespace Go.Fl
open Go
section
variable {H : Type} {enc : TypeId × Value → H}
theorem returnsInHanded_of_cond_laid {a : Assume} {C : Checked} {os : Os} {f : FuncId} {fn : Func} {s : OpenSpec} {k : (H : Type) → List (DataW H) → Bool} (hk : s.cond = some k) {F : Stop.Interp} {conds : List PathCond} {apart fresh handsOn again : Bool} {X : World → Prop}
  (hX : ∀ w w' : World, w.heap = w'.heap → X w → X w')
  (own : ownKnob C.prog.godebug = none) (started : os.Started) (noInit : C.prog.inits.idxOf? f = none) (hfn : C.prog.funcs[f]? = some fn)
  (witness : ∃ (w : World) (tape : Tape) (i : Input), w.os = os ∧ (w.forCall tape i).Shaped C.prog ∧ i.vars = [] ∧ Input.okWide C.prog (w.forCall tape i) .any w.heap.size f i ∧
   ((s.pre enc C.prog fn conds apart (w.forCall tape i).memory i.args ∧ X (w.forCall tape i).memory) ∧ sizedMet enc C.prog fn s apart (w.forCall tape i).memory i.args) ∧ a.holds C.prog (lone (Frame.enter C.prog f i.args .normal) [] (w.forCall tape i)))
  (contract : ∀ (W : World) (base : Nat) (args : Array Value) (ds gs : List (DataW H)) (before : List MemPlace),
   (∀ (j : Nat) t v, fn.params[j]? = some t → args[j]? = some v → Value.okWide C.prog W .any base t v) →
   DataW.Whole enc C.prog fn.params.toList s.vars apart W args.toList ds gs before →
   k H (ds ++ gs) = true →
   (DataW.weightsEach C.prog (fn.params.toList ++ s.bare.plain.varTypes C.prog) (ds ++ gs)).all (· ≤ reachBytes) = true → X W →
   Calls C.prog f args W fun e W' => ∃ v, e = .returned v ∧ (s.at F).post enc C.prog fn apart fresh handsOn again W args v W') :
  ReturnsInHanded a C os f .any (fun w args => (s.pre enc C.prog fn conds apart w args ∧ X w) ∧ sizedMet enc C.prog fn s apart w args) ((s.at F).post enc C.prog fn apart fresh handsOn again) := by
 refine returnsInHanded_of_calls own started noInit witness ?_
 intro w tape i _ _ _ hok hpre hholds
 obtain ⟨_, _, _, fn', hfn', _, _, _, _, hval⟩ := hok
 have e : fn' = fn := Option.some.inj (hfn'.symm.trans hfn)
 subst e
 obtain ⟨ds, gs, before, hw, hc, hkk⟩ := (OpenSpec.pre_some hk conds apart _ _).1 hpre.1.1
 have hw' := DataW.Whole.of_heap (w' := w.forCall tape i) (by rfl) hw
 refine (contract (w.forCall tape i) w.heap.size i.args ds gs before hval hw' hkk (hpre.2.weights hw) (hX _ _ (by rfl) hpre.1.2)).mono fun e W' ⟨v, he, hp⟩ => ?_
 subst he
 exact ChangeSpec.post_blind hp
theorem witness_laid {C : Checked} {os : Os} {f : FuncId} {fn : Func} {s : OpenSpec} {k : (H : Type) → List (DataW H) → Bool} (hk : s.cond = some k) {conds : List PathCond} {apart : Bool} {X : World → Prop} (modest : Bool) (w0 : World) (args : Array Value) (fuel : Nat) (hos : w0.os = os)
  (hsh : (w0.forCall (fun _ _ => 0) ⟨#[], args, []⟩).Shaped C.prog)
  (hok : Input.okWideB C.prog (w0.forCall (fun _ _ => 0) ⟨#[], args, []⟩) f ⟨#[], args, []⟩ = true)
  {x : List (DataW H) × List (DataW H) × List MemPlace} (hx : DataW.whole enc C.prog (w0.forCall (fun _ _ => 0) ⟨#[], args, []⟩).memory fn.params.toList s.vars apart args.toList fuel = some x)
  (hconds : conds.all (PathCond.test C.prog ⟨fn.params.toList, x.1, s.bare.plain.varTypes C.prog, x.2.1⟩) = true) (hkk : k H (x.1 ++ x.2.1) = true)
  (hsz : s.bare.sizedB enc C.prog fn apart (w0.forCall (fun _ _ => 0) ⟨#[], args, []⟩).memory args fuel = true)
  (hX : X (w0.forCall (fun _ _ => 0) ⟨#[], args, []⟩).memory) :
  ∃ (w : World) (tape : Tape) (i : Input), w.os = os ∧ (w.forCall tape i).Shaped C.prog ∧ i.vars = [] ∧ Input.okWide C.prog (w.forCall tape i) .any w.heap.size f i ∧
   ((s.pre enc C.prog fn conds apart (w.forCall tape i).memory i.args ∧ X (w.forCall tape i).memory) ∧ sizedMet enc C.prog fn s apart (w.forCall tape i).memory i.args) ∧ ({ modest := modest } : Assume).holds C.prog (lone (Frame.enter C.prog f i.args .normal) [] (w.forCall tape i)) :=
 ⟨w0, fun _ _ => 0, ⟨#[], args, []⟩, hos, hsh, (Input.okWide_of_okWideB (base := 0) hok).1, (Input.okWide_of_okWideB hok).2,
  ⟨⟨(OpenSpec.pre_some hk conds apart _ _).2 ⟨x.1, x.2.1, x.2.2, DataW.Whole_of_whole hx, hconds, hkk⟩, hX⟩, sizedMet_of_sizedB hsz⟩, by
  simp only [Assume.holds]
  exact ⟨by simp, by simp, fun _ => Modest.zero, by simp, by simp⟩⟩
end
end Go.Fl

namespace Go.Proofs.YthjmapekjggdjaaGreatDoor.checkGraph
open Go.ChangeShapes Go.WideShapes Go.ChangeAt Go.RowKit
theorem own : ownKnob Tryz.prog.godebug = none := by kernel_rfl
theorem door_met (os : Os) (args : Array Value) : laidMetH Tryz.prog Fl.laid3 ((World.doorLaid Tryz.prog 400 os).forCall (fun _ _ => 0) ⟨#[], args, []⟩).memory :=
  laidMetH_of_parts3 (fuel := 8) (laidMet_of_run' 8 (by kernel_rfl) (by kernel_rfl)) (by kernel_rfl) (by kernel_rfl)
theorem lifted (os : Os) (started : os.Started) (H : Type) (enc : TypeId × Value → H) (F : Stop.Interp) :
    ReturnsInHanded {} Tryz.checked os 3 .any (fun w args => ((Rows.OpenSpec.upto Rows.checkGraphSpec).pre enc Tryz.prog Tryz.f3 [] false w args ∧ laidMetH Tryz.prog Fl.laid3 w) ∧ sizedMet enc Tryz.prog Tryz.f3 (Rows.OpenSpec.upto Rows.checkGraphSpec) false w args)
      (((Rows.OpenSpec.upto Rows.checkGraphSpec).at F).post enc Tryz.prog Tryz.f3 false true false false) := by
  refine Fl.returnsInHanded_of_cond_laid (C := Tryz.checked) (s := Rows.OpenSpec.upto Rows.checkGraphSpec) (k := Rows.uptoSmall) rfl (X := fun w => laidMetH Tryz.prog Fl.laid3 w) (fun _ _ hh h => h.of_heap hh) own started (by kernel_rfl) Tryz.func3
    (Fl.witness_laid (enc := enc) (C := Tryz.checked) (os := os) (s := Rows.OpenSpec.upto Rows.checkGraphSpec) (k := Rows.uptoSmall) rfl (X := fun w => laidMetH Tryz.prog Fl.laid3 w) false (World.doorLaid Tryz.prog 400 os) #[.agg #[.int .i64 0, .slice none 0 0], .agg #[.bool false, .slice none 0 0, .slice none 0 0]] 8 rfl
      (World.shaped_of_RefB (by kernel_rfl) (by kernel_rfl)) (by kernel_rfl) (x := ([.agg [.lit (.int .i64 0), .nil], .agg [.lit (.bool false), .nil, .nil]], [], [])) (by kernel_rfl) (by kernel_rfl) (by kernel_rfl) (by kernel_rfl) (door_met os _)) ?_
  intro W base args ds gs before hval0 hW hbulk hsz0 hL
  have hsz : (DataW.weightsEach Tryz.prog (Tryz.f3.params.toList ++ (Rows.OpenSpec.upto Rows.checkGraphSpec).bare.plain.varTypes Tryz.prog) (ds ++ gs)).all (· ≤ reachBytes) = true := hsz0
  have hval : ∀ (j : Nat) t v, Tryz.f3.params[j]? = some t → args[j]? = some v → Value.okWide Tryz.prog W .any base t v := hval0
  have hp := Fl.pow_of hL
  have hW' := hW
  obtain ⟨p, q, hA0, hV, rfl, hfz, hnd⟩ := hW
  have hA : DataW.TrodAll enc Tryz.prog W 0 (fun _ => true) true Tryz.f3.params.toList args.toList ds p := hA0
  rw [Tryz.params3] at hA hval hsz
  obtain ⟨v0, v1, d0, d1, p0, p1, rfl, rfl, rfl, t0, t1⟩ := trodAll_two hA
  obtain ⟨rfl, rfl⟩ := trodVars_none hV
  clear hA0 hval0 hsz0
  have hbk : Rows.uptoBulkAll [d0, d1] ≤ 1048576 := by simpa [Rows.uptoSmall] using hbulk
  have lt0 : ∀ x ∈ p0, x.block < W.heap.size := fun x hx => by simpa using hW'.lt x (by simp [hx])
  have lt1 : ∀ x ∈ p1, x.block < W.heap.size := fun x hx => by simpa using hW'.lt x (by simp [hx])
  have hli := Fl.light_all hsz
  obtain ⟨w0, hli⟩ := Fl.light_cons hli
  have b0 : Rows.uptoBulk d0 ≤ 1048576 := Nat.le_trans (Fl.bulk_mem (by simp)) hbk
  obtain ⟨N0, va0, es0, rfl, hg0, hN0, hE0⟩ := Fl.open_graphB (hval 0 _ _ rfl rfl) t0 w0
  obtain ⟨w1, hli⟩ := Fl.light_cons hli
  have b1 : Rows.uptoBulk d1 ≤ 1048576 := Nat.le_trans (Fl.bulk_mem (by simp)) hbk
  obtain ⟨pl1, ls1, cs1, x1, y1, rfl, hv1, hu1, hn1, hs1⟩ := Fl.open_cert (hval 1 _ _ rfl rfl) t1 w1 b1
  refine Calls.mono (Fl.LGraph_calls hg0 hv1 hu1 hp (by omega) (fun l hl => by have := hs1 l hl; omega)) ?_
  rintro _ W' ⟨v, L, rfl, rfl, hO⟩
  exact ⟨_, rfl, _, _, _, [], _, [], hW', trodAll_mk1 (shut_bool Tryz.underlying4 _), trodAll_mk2 (Fl.staysB (by kernel_rfl) (of_decide_eq_true (by kernel_rfl)) t0 hO lt0) (Fl.staysB (by kernel_rfl) (of_decide_eq_true (by kernel_rfl)) t1 hO lt1), rfl, (Fl.own_belowO hO).frame _, fun h => by cases h⟩
theorem row_holds : Rows.checkGraphUptoRow.holds Tryz.pinned (Rows.OpenSpec.upto Rows.checkGraphSpec) :=
  OpenClaim.holds_of_cond 3 Tryz.f3 rfl rfl rfl rfl rfl rfl rfl ⟨rfl, rfl, rfl, rfl, rfl⟩ rfl rfl rfl rfl rfl (by kernel_rfl) Tryz.func3 (by kernel_rfl)
    (of_decide_eq_true (by kernel_rfl)) (by unfold Func.isWrapper; first | (rw [if_pos (by decide +kernel)]; kernel_rfl) | (rw [if_neg (by decide +kernel)]; exact ⟨rfl, rfl⟩))
    (fun os started H enc _ F => lifted os started H enc F)
theorem over : Claim7.holds Tryz.pinned (.plain (Rows.OpenSpec.upto Rows.checkGraphSpec)) Rows.checkGraphUptoCard :=
  Claim7.holds_tied_plain_at .later [] [.data, .data, .data] true (true, "3987e0c40a2bbd31317015edf0e6dfd52ea27bfe98bff0270e2e7a2b6bdbf781") true
    row_holds (fun _ h => by cases h) (by kernel_rfl) (fun _ h => by cases h) checkGraphUpto_row_tie rfl ⟨rfl, rfl⟩ (by kernel_rfl) rfl
    (fun f fn hf hfn => by
      obtain rfl : f = 3 := Option.some.inj ((show Tryz.prog.funcNamed "tangram/tangramlaw18.CheckGraph" = some 3 by kernel_rfl).symm.trans hf) |>.symm
      obtain rfl : fn = Tryz.f3 := (Option.some.inj (Tryz.func3.symm.trans hfn)).symm
      exact ⟨by kernel_rfl, fun j t ht => by
        rw [Tryz.params3] at ht
        match j, ht with
        | 0, ht => obtain rfl : t = 24 := by simpa using ht.symm
                   exact (show Tryz.prog.wantsStandIn 24 = false by kernel_rfl)
        | 1, ht => obtain rfl : t = 27 := by simpa using ht.symm
                   exact (show Tryz.prog.wantsStandIn 27 = false by kernel_rfl)
        | j + 2, ht => simp at ht⟩)
    (by kernel_rfl)
end Go.Proofs.YthjmapekjggdjaaGreatDoor.checkGraph
namespace Go.Proofs.YthjmapekjggdjaaGreatDoor
theorem checkGraph_holds : Rows.CheckGraphUptoCardSaid := checkGraph.over
#print axioms checkGraph_holds
end Go.Proofs.YthjmapekjggdjaaGreatDoor
