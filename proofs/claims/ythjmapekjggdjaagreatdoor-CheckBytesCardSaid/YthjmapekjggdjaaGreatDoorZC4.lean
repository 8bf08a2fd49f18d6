/- Part 4 of the proof: the library of the walk and the walks, in build order; no condition. -/
import Derived.Test.YthjmapekjggdjaaGreatDoorZC3
set_option linter.unusedVariables false
set_option linter.unusedSimpArgs false
set_option linter.unusedSectionVars false
set_option maxRecDepth 100000
namespace Go.Fl
open Go Go.Proofs
open Classical
theorem EO (es : List Pr) (i : Nat) : brV es (i + 1) = brV es i ++ if degV es (i : Int) ≠ 0 ∧ degV es (i : Int) ≠ 2 then [(i : Int)] else [] := by
 unfold brV
 rw [List.range_succ, List.filter_append, List.map_append]
 congr 1
 by_cases h : degV es (i : Int) ≠ 0 ∧ degV es (i : Int) ≠ 2 <;> simp [h]
theorem NG (es : List Pr) (i : Nat) : (brV es i).length ≤ i := by
 unfold brV
 rw [List.length_map]
 have := List.length_filter_le (fun v : Nat => decide (degV es (v : Int) ≠ 0 ∧ degV es (v : Int) ≠ 2)) (List.range i)
 simpa using this
theorem LM {es : List Pr} {i n : Nat} (h : i ≤ n) {x : Int} (hx : x ∈ brV es i) : x ∈ brV es n := by
 unfold brV at hx ⊢
 obtain ⟨v, hv, rfl⟩ := List.mem_map.1 hx
 obtain ⟨h1, h2⟩ := List.mem_filter.1 hv
 exact List.mem_map.2 ⟨v, List.mem_filter.2 ⟨TN.2 (by have := TN.1 h1; omega), h2⟩, rfl⟩
structure DgI where
 i : Nat
 d : Nat
 v : Value
theorem HS {n : Nat} {es : List Pr} {M : AdjM} {p : Option Addr} {w : World} (hA : AV w n es M p) :
  Calls Tryz.prog 126 #[.pointer p] w (Ret w [] fun r L =>
   (∃ A c d, r = .tuple #[.slice A (brV es n).length c, .int .i64 (d : Nat)] ∧ L = [slc (.slice A (brV es n).length c) 3 1 (ints (brV es n))] ∧ ∀ u, u ∈ brV es n → degV es u = d) ∨
   (r = .tuple #[.slice none 0 0, .int .i64 0] ∧ L = [] ∧ ¬ ∃ d, ∀ u, u ∈ brV es n → degV es u = d)) := by
 have hV := hA.vld
 have hn := hV.hi
 refine Ao (args := [_]) (L := []) Tryz.func126 rfl Tryz.ntmps126 rfl (Own.start _ _) ?_
 refine Zs ?_
 iterate 2 refine Za ?_
 refine Zx <| Zs ?_
 refine Za ?_
 refine Zx <| Zs ?_
 refine Za ?_
 refine Zx <| DC.seq <| Zs ?_
 refine Zm ?_
 refine Seq.rel0 rfl rfl (Ar Rh rfl rfl rfl (fun w' hw => NJ (hA.keep hw))) ?_
 rintro _ rfl
 refine Zm ?_
 refine Zx <| DC.block ?_
 refine DC.own (fun w hw => AX (t := 3) (m := 1) hw) ?_
 refine DC.loop (ι := DgI) (fun j => j.i ≤ n ∧ (∀ u, u ∈ brV es j.i → degV es u = j.d) ∧ (j.d = 0 → brV es j.i = []) ∧ (j.d ≠ 0 → brV es j.i ≠ []))
  (fun j => [(0, .pointer p), (4, j.v), (5, .int .i64 j.d), (9, .int .i64 n), (10, .int .i64 j.i)])
  (fun j => [slc j.v 3 1 (ints (brV es j.i))]) (fun j => n - j.i) ⟨0, 0, .slice none 0 0⟩ ⟨Nat.zero_le _, by simp [brV], fun _ => by simp [brV], fun h => absurd rfl h⟩ ⟨rfl, rfl, rfl, rfl, rfl, trivial⟩ (.cons 0 rfl .nil) ?_
 rintro ⟨i, d, v4⟩ ⟨hi, hd, hd0, hd1⟩
 dsimp only at hi hd hd0 hd1 ⊢
 refine Zs ?_
 refine Zc ?_
 refine Zx <| DC.seq ?_
 refine Zd (fun c4 => ?_) fun c4 => ?_
 ·have hlt : i < n := by simpa using c4
  have hbl := NG es i
  refine DC.skip <| Fin.then <| DC.seq <| DC.block <| Zs ?_
  refine Zm ?_
  refine Za ?_
  refine Zx <| Zs ?_
  iterate 2 refine Zm ?_
  refine Seq.rel0 rfl rfl (Ar Ly rfl rfl rfl (fun w' hw => CO (hA.keep hw) _)) ?_
  rintro _ rfl
  refine Za ?_
  refine Zx <| DC.block <| Zs ?_
  refine Zm ?_
  refine Zo (AN rfl rfl rfl) ?_
  refine Zm ?_
  refine Seq.split 19 rfl (fun k8_2 => ?_) (fun k8_2 => ?_)
  ·refine Zk ?_
   refine Zk ?_
   refine Zt ?_
   refine Za ?_
   refine Zx ?_
   refine AI rfl ?_
   refine DC.skip <| Fin.inBlock <| Fin.inBlock <| Fin.then <| DC.region ?_
   refine Zp ?_
   refine Zm ?_
   refine Seq.nil ?_
   have hb : brV es (i + 1) = brV es i := by
    have : degV es (i : Int) = 0 := by unfold degV; simp at k8_2; simp [k8_2]
    rw [EO, if_neg (by omega), List.append_nil]
   refine Ag ⟨i + 1, d, v4⟩ (by dsimp only; omega) ⟨by dsimp only; omega, by dsimp only; rw [hb]; exact hd, by dsimp only; rw [hb]; exact hd0, by dsimp only; rw [hb]; exact hd1⟩ ⟨rfl, rfl, rfl, rfl, rfl, trivial⟩ (.cons' 0 rfl (by dsimp only; rw [hb]) .nil)
  refine Zm ?_
  refine Zo (AN rfl rfl rfl) ?_
  refine Zg ?_
  refine Za ?_
  refine Zx ?_
  refine Zd (fun c8 => ?_) fun c8 => ?_
  ·refine DC.skip <| Fin.inBlock <| Fin.inBlock <| Fin.then <| DC.region ?_
   refine Zp ?_
   refine Zm ?_
   refine Seq.nil ?_
   have hb : brV es (i + 1) = brV es i := by
    have : degV es (i : Int) = 2 := by unfold degV; simp at c8; omega
    rw [EO, if_neg (by omega), List.append_nil]
   refine Ag ⟨i + 1, d, v4⟩ (by dsimp only; omega) ⟨by dsimp only; omega, by dsimp only; rw [hb]; exact hd, by dsimp only; rw [hb]; exact hd0, by dsimp only; rw [hb]; exact hd1⟩ ⟨rfl, rfl, rfl, rfl, rfl, trivial⟩ (.cons' 0 rfl (by dsimp only; rw [hb]) .nil)
  refine Zs ?_
  refine Zm ?_
  refine Zo (AN rfl rfl rfl) ?_
  refine Zm ?_
  refine Seq.split 26 rfl (fun k9_2 => ?_) (fun k9_2 => ?_)
  ·refine Zk ?_
   iterate 2 refine Zk ?_
   refine Zt ?_
   refine Za ?_
   refine Zx ?_
   refine AI rfl ?_
   refine DC.region ?_
   iterate 2 refine Zm ?_
   refine Zw (AP (cs := #[_]) rfl rfl TT AQ B0 rfl (by decide) (by decide) rfl rfl) fun g33 => ?_
   refine Seq.gen rfl rfl (AK rfl rfl rfl TT AQ DE B0 rfl (by decide) (by decide) (fun w hw => hw.pick (.cons 1 rfl .nil)) (.inl ⟨_, _, rfl, Ak rfl⟩) rfl (Bm [_] []) (by simp; omega)) ?_
   rintro v34 _ rfl
   have hne : degV es (i : Int) ≠ 0 ∧ degV es (i : Int) ≠ 2 := by
    have h1 : ¬ (((outs es (i : Int)).length : Int) = 0) := by simpa using k8_2
    have h2 : ¬ (((outs es (i : Int)).length : Int) = 2) := by simpa using c8
    unfold degV
    omega
   refine Zm ?_
   iterate 2 refine Za ?_
   refine Seq.nil <| Fin.inBlock <| Fin.inBlock <| Fin.then <| DC.region ?_
   refine Zp ?_
   refine Zm ?_
   refine Seq.nil ?_
   have hb : brV es (i + 1) = brV es i ++ [(i : Int)] := by rw [EO, if_pos hne]
   refine Ag ⟨i + 1, degV es (i : Int), v34⟩ (by dsimp only; omega) ⟨by dsimp only; omega, ?_, fun h => absurd h hne.1, fun _ => by dsimp only; rw [hb]; simp⟩ ⟨rfl, rfl, rfl, rfl, rfl, trivial⟩ (.cons' 0 rfl (by dsimp only; rw [hb, AU]) .nil)
   dsimp only
   have hd00 : d = 0 := by simp at k9_2; omega
   rw [hb, hd0 hd00]
   intro u hu
   simp at hu; subst hu; rfl
  iterate 2 refine Zm ?_
  refine Zo (AN rfl rfl rfl) ?_
  refine Zg ?_
  refine Za ?_
  refine Zx ?_
  refine Zd (fun c9 => ?_) fun c9 => ?_
  ·refine DC.region ?_
   iterate 2 refine Zm ?_
   refine Zw (AP (cs := #[_]) rfl rfl TT AQ B0 rfl (by decide) (by decide) rfl rfl) fun g33 => ?_
   refine Seq.gen rfl rfl (AK rfl rfl rfl TT AQ DE B0 rfl (by decide) (by decide) (fun w hw => hw.pick (.cons 1 rfl .nil)) (.inl ⟨_, _, rfl, Ak rfl⟩) rfl (Bm [_] []) (by simp; omega)) ?_
   rintro v34 _ rfl
   have hne : degV es (i : Int) ≠ 0 ∧ degV es (i : Int) ≠ 2 := by
    have h1 : ¬ (((outs es (i : Int)).length : Int) = 0) := by simpa using k8_2
    have h2 : ¬ (((outs es (i : Int)).length : Int) = 2) := by simpa using c8
    unfold degV
    omega
   refine Zm ?_
   iterate 2 refine Za ?_
   refine Seq.nil <| Fin.inBlock <| Fin.inBlock <| Fin.then <| DC.region ?_
   refine Zp ?_
   refine Zm ?_
   refine Seq.nil ?_
   have hb : brV es (i + 1) = brV es i ++ [(i : Int)] := by rw [EO, if_pos hne]
   refine Ag ⟨i + 1, degV es (i : Int), v34⟩ (by dsimp only; omega) ⟨by dsimp only; omega, ?_, fun h => absurd h hne.1, fun _ => by dsimp only; rw [hb]; simp⟩ ⟨rfl, rfl, rfl, rfl, rfl, trivial⟩ (.cons' 0 rfl (by dsimp only; rw [hb, AU]) .nil)
   dsimp only
   have hdd : d = degV es (i : Int) := by unfold degV; simp at c9; omega
   rw [hb]
   intro u hu
   rcases List.mem_append.1 hu with hu | hu
   ·rw [hd u hu, hdd]
   simp at hu; subst hu; rfl
  refine Zs ?_
  iterate 2 refine Za ?_
  refine Zx <| DC.ret <| Ae <| Ae <| Aa <| Aa <| Ae <| Aa ?_
  refine Fin.weak (E' := [(2, _), (3, _)]) ⟨rfl, rfl, trivial⟩ .nil ?_
  refine AL (.inl rfl) rfl rfl rfl ?_
  refine .inr ⟨rfl, rfl, ?_⟩
  rintro ⟨d', hd'⟩
  have h0 : d ≠ 0 := by simp at k9_2; omega
  obtain ⟨u, hu⟩ := List.exists_mem_of_ne_nil _ (hd1 h0)
  have hb : brV es (i + 1) = brV es i ++ [(i : Int)] := by
   rw [EO, if_pos]
   have h1 : ¬ (((outs es (i : Int)).length : Int) = 0) := by simpa using k8_2
   have h2 : ¬ (((outs es (i : Int)).length : Int) = 2) := by simpa using c8
   unfold degV
   omega
  have e1 := hd' u (LM hi hu)
  have e2 := hd' i (LM (i := i + 1) (by omega) (by rw [hb]; simp))
  have e3 := hd u hu
  unfold degV at e1 e2 e3
  simp at c9
  omega
 refine DC.exit <| Ad <| Ad <| Ah <| Fin.then <| Zs ?_
 iterate 2 refine Zm ?_
 iterate 2 refine Za ?_
 refine Zx <| DC.ret ?_
 have hie : i = n := by simp at c4; omega
 subst hie
 have hbl := NG es i
 refine Fin.slcs (i := 0) (xs := brV es i) rfl (by omega) ?_
 rintro A c rfl _
 refine Fin.weak (E' := [(2, _), (3, _)]) (L' := [slc (.slice A (brV es i).length c) 3 1 (ints (brV es i))]) ⟨rfl, rfl, trivial⟩ (.cons 0 rfl .nil) ?_
 refine AL (.inl rfl) rfl rfl rfl ?_
 exact .inl ⟨A, c, d, rfl, rfl, hd⟩
end Go.Fl

namespace Go.Fl
open Go Go.Proofs
open Classical
theorem B8 (c : Chunk) : ∀ R : List Chunk, Pick (c :: R) R
 | [] => .nil
 | d :: R => .cons 1 rfl (B8 c R)
theorem EW (a : Chunk) {M L' : List Chunk} (h : Pick M L') : Pick (a :: M) L' := by
 induction h with
 | nil => exact .nil
 | cons i h r ih => exact .cons (i + 1) h ih
theorem OU {w0 w : World} {K : List Nat} {F : List Chunk} {t : Nat} {cs : RL} {p : Value × List Int} (hw : Own w0 K w (F ++ rowsC t cs)) (hp : p ∈ cs) : SlB w p.1 p.2 := by
 obtain ⟨i, hi⟩ := TF.1 hp
 exact Fw (hw.perm (GU hi F).symm)
/-- The values of the map are our rows. -/
def MapR (m : List (Pr × Value)) (cs : RL) : Prop := ∀ q x, lkM m q = some x → ∃ p, p ∈ cs ∧ p.1 = x
theorem D5 {gm : Nat} {m : List (Pr × Value)} {cs : RL} {X : List Chunk} {u v : Int} {w : World} (hO : Own w (idsOf (mpc encP gm m :: (X ++ rowsC 3 cs))) w (mpc encP gm m :: (X ++ rowsC 3 cs))) (hm : MapR m cs)
  (hs : ∀ p, p ∈ cs → p.2.length ≤ 1000000000) :
  Calls Tryz.prog 162 #[.map (some gm), .int .i64 u, .int .i64 v] w (Ret w (idsOf (mpc encP gm m :: (X ++ rowsC 3 cs))) fun r M => M = mpc encP gm m :: (X ++ rowsC 3 cs) ∧
   ∃ A l c, r = .tuple #[.slice A l c, .bool (lkM m (srt u v)).isSome]) := by
 obtain ⟨xs, hxl, hxs⟩ : ∃ xs : List Int, xs.length ≤ 1000000000 ∧ ∀ (w0 w' : World) K, Own w0 K w' (mpc encP gm m :: (X ++ rowsC 3 cs)) → SlB w' ((lkM m (srt u v)).getD (.slice none 0 0)) xs := by
  cases hq : lkM m (srt u v) with
  | none => exact ⟨[], by simp, fun _ _ _ _ => .inl ⟨none, 0, rfl, rfl⟩⟩
  | some x =>
   obtain ⟨p, hp, rfl⟩ := hm _ _ hq
   exact ⟨p.2, hs p hp, fun w0 w' K hw => OU (F := mpc encP gm m :: X) hw hp⟩
 refine Ao (args := [_, _, _]) (L := mpc encP gm m :: (X ++ rowsC 3 cs)) Tryz.func162 rfl Tryz.ntmps162 rfl hO ?_
 refine Zs ?_
 iterate 2 refine Za ?_
 refine Zx <| Zs ?_
 iterate 3 refine Zm ?_
 refine Zo (Na rfl rfl rfl) ?_
 iterate 2 refine Zm ?_
 refine Zo (Nb rfl rfl rfl) ?_
 refine Zo (JK (cs := #[.int .i64 (min u v), .int .i64 (max u v)]) rfl rfl Tryz.underlying35 AQ LW rfl rfl rfl) ?_
 refine Zu (C3 (k := srt u v) (ok := true) 0 rfl Gs rfl rfl rfl Tryz.underlying205 Da rfl) ?_
 refine Zm ?_
 iterate 2 refine Ze ?_
 iterate 2 refine Za ?_
 refine Zx <| Zs ?_
 refine Zm ?_
 refine Seq.rel rfl rfl (Ar RS rfl rfl rfl (fun w' hw => EN (hxs _ w' _ hw) (by omega))) ?_
 rintro v23 _ rfl
 simp only [zs]
 refine Za ?_
 refine Zx <| DC.seq <| Zs ?_
 iterate 2 refine Zm ?_
 refine Zo (Bs rfl rfl rfl) ?_
 refine Zx ?_
 refine Zd (fun c3 => ?_) fun c3 => ?_
 ·refine DC.region ?_
  refine Zm ?_
  refine Seq.gen rfl rfl (Bh SD rfl rfl rfl (Lc := [slc v23 3 1 (ints xs)]) (F := mpc encP gm m :: (X ++ rowsC 3 cs)) (.refl _) (fun k hk => hk) (fun w' hw => IS (hw.sub (L' := [slc v23 3 1 (ints xs)]) ((TH _).cons_cons _)).self)) ?_
  rintro v28 _ ⟨_, rfl, rfl⟩
  refine Zx <| Zs ?_
  iterate 2 refine Zm ?_
  iterate 2 refine Za ?_
  refine Zx <| DC.ret ?_
  refine Fin.shape (i := 0) (vs := ints xs.reverse) (t := 3) (m := 1) rfl ?_
  rintro ⟨A, l, c, rfl⟩
  refine Fin.own (fun w hw => hw.sub (TG ..)) ?_
  refine Fin.weak (E' := [(6, _), (7, _)]) ⟨rfl, rfl, trivial⟩ (Pick.all _) ?_
  refine AL (.inl rfl) rfl rfl rfl ?_
  exact ⟨rfl, A, l, c, rfl⟩
 refine DC.skip <| Fin.then <| Zs ?_
 iterate 2 refine Zm ?_
 iterate 2 refine Za ?_
 refine Zx <| DC.ret ?_
 refine Fin.shape (i := 0) (vs := ints xs) (t := 3) (m := 1) rfl ?_
 rintro ⟨A, l, c, rfl⟩
 refine Fin.own (fun w hw => hw.sub (TG ..)) ?_
 refine Fin.weak (E' := [(6, _), (7, _)]) ⟨rfl, rfl, trivial⟩ (Pick.all _) ?_
 refine AL (.inl rfl) rfl rfl rfl ?_
 exact ⟨rfl, A, l, c, rfl⟩
theorem Dz {E : List Pr} {B : List Int} {i : Nat} {x : Int} (hx : B[i]? = some x) (f : Int → Bool) : (B.take (i + 1)).filter f = (B.take i).filter f ++ if f x then [x] else [] := by
 rw [List.take_add_one, hx, List.filter_append]
 congr 1
 cases h : f x <;> simp [h]
structure SdI where
 i : Nat
 v5 : Value
 v6 : Value
theorem KF {gm : Nat} {m : List (Pr × Value)} {cs : RL} {vb : Value} {B : List Int} {E : List Pr} {w : World} (hO : Own w (idsOf (mpc encP gm m :: slc vb 3 1 (ints B) :: rowsC 3 cs)) w (mpc encP gm m :: slc vb 3 1 (ints B) :: rowsC 3 cs)) (hm : MapR m cs)
  (hs : ∀ p, p ∈ cs → p.2.length ≤ 1000000000) (hB : B.length ≤ 1000000) (hE : ∀ q, (lkM m q).isSome = decide (q ∈ E)) :
  Calls Tryz.prog 129 #[vb, .map (some gm)] w (Ret w (idsOf (mpc encP gm m :: slc vb 3 1 (ints B) :: rowsC 3 cs)) fun r M => M = mpc encP gm m :: slc r 3 1 (ints (sidesOf E B)) :: rowsC 3 cs) := by
 refine Ao (args := [_, _]) (L := mpc encP gm m :: slc vb 3 1 (ints B) :: rowsC 3 cs) Tryz.func129 rfl Tryz.ntmps129 rfl hO ?_
 refine DC.slcs (i := 1) (xs := B) rfl (by omega) ?_
 rintro A c rfl hA
 refine Zs ?_
 refine Za ?_
 refine Zx <| Zs ?_
 iterate 2 refine Za ?_
 refine Zx <| DC.seq <| Zs ?_
 refine Zm ?_
 refine Zn TT ?_
 refine Zm ?_
 refine Zx <| DC.block ?_
 refine DC.own (fun w hw => AX (t := 3) (m := 1) (AX (t := 3) (m := 1) hw)) ?_
 refine DC.loop (ι := SdI) (fun j => j.i ≤ B.length)
  (fun j => [(0, .slice A B.length c), (1, .map (some gm)), (5, j.v5), (6, j.v6), (11, .slice A B.length c), (12, .int .i64 B.length), (13, .int .i64 j.i)])
  (fun j => mpc encP gm m :: slc j.v5 3 1 (ints ((B.take j.i).filter fun v => decide (srt (B.headD 0) v ∉ E))) :: slc j.v6 3 1 (ints ((B.take j.i).filter fun v => decide (srt (B.headD 0) v ∈ E))) :: slc (.slice A B.length c) 3 1 (ints B) :: rowsC 3 cs) (fun j => B.length - j.i)
  ⟨0, .slice none 0 0, .slice none 0 0⟩ (Nat.zero_le _) ⟨rfl, rfl, rfl, rfl, rfl, rfl, rfl, trivial⟩ (.cons 2 rfl (.cons 0 rfl (.cons 0 rfl (Pick.all _)))) ?_
 rintro ⟨i, v5, v6⟩ hi
 dsimp only at hi ⊢
 refine Zs ?_
 refine Zc ?_
 refine Zx <| DC.seq ?_
 refine Zd (fun c3 => ?_) fun c3 => ?_
 ·have hlt : i < B.length := by simpa using c3
  obtain ⟨ad, rfl⟩ := hA (fun e => by rw [e] at hlt; simp at hlt)
  obtain ⟨x, hx⟩ : ∃ x, B[i]? = some x := ⟨_, Tz hlt⟩
  obtain ⟨x0, hx0⟩ : ∃ x, B[0]? = some x := ⟨_, Tz (by omega)⟩
  have hhd : B.headD 0 = x0 := by rw [List.headD_eq_head?_getD, List.head?_eq_getElem?, hx0]; rfl
  have hl5 := List.length_filter_le (fun v => decide (srt (B.headD 0) v ∉ E)) (B.take i)
  have hl6 := List.length_filter_le (fun v => decide (srt (B.headD 0) v ∈ E)) (B.take i)
  rw [List.length_take] at hl5 hl6
  refine DC.skip <| Fin.then <| DC.seq <| DC.block <| Zs ?_
  refine Zo (Aj (ad' := ad.add i) rfl rfl rfl TT AQ (by omega) (by omega) rfl) ?_
  refine Zu (Ai rfl rfl AJ (BU (i := 3) rfl hx (by omega))) ?_
  refine Za ?_
  refine Zx <| Zs ?_
  iterate 2 refine Zm ?_
  refine Zo (Aj (ad' := ad.add 0) rfl rfl rfl TT AQ (by omega) (by omega) rfl) ?_
  refine Zu (Ai rfl rfl AJ (BU (i := 3) rfl hx0 (by omega))) ?_
  refine Zm ?_
  refine Seq.gen rfl rfl (Bh PV rfl rfl rfl (Lc := mpc encP gm m :: ([slc v5 3 1 (ints ((B.take i).filter fun v => decide (srt (B.headD 0) v ∉ E))), slc v6 3 1 (ints ((B.take i).filter fun v => decide (srt (B.headD 0) v ∈ E))), slc (.slice (some ad) B.length c) 3 1 (ints B)] ++ rowsC 3 cs)) (F := []) (by rw [List.append_nil]; exact .refl _) (fun k hk => hk) (fun w' hw => D5 hw.self hm hs)) ?_
  rintro _ _ ⟨_, ⟨rfl, A', l', c', rfl⟩, rfl⟩
  rw [hE, List.append_nil, ← hhd]
  simp only [zs]
  refine Zm ?_
  iterate 2 refine Ze ?_
  iterate 2 refine Za ?_
  refine Zx <| Zs ?_
  refine Zm ?_
  refine Zx ?_
  refine Zd (fun c6 => ?_) fun c6 => ?_
  ·refine DC.region ?_
   iterate 2 refine Zm ?_
   refine Zw (AP (cs := #[_]) rfl rfl TT AQ B0 rfl (by decide) (by decide) rfl rfl) fun g29 => ?_
   refine Seq.gen rfl rfl (AK rfl rfl rfl TT AQ DE B0 rfl (by decide) (by decide) (fun w hw => hw.perm (AO (i := 3) rfl).symm) (.inl ⟨_, _, rfl, Ak rfl⟩) rfl (Bm [_] []) (by simp only [ints_length]; omega)) ?_
   rintro v30 _ rfl
   refine Za ?_
   refine Seq.nil <| Fin.inBlock <| Fin.then <| DC.region ?_
   refine Zp ?_
   refine Zm ?_
   refine Seq.nil ?_
   have h6 : srt (B.headD 0) x ∈ E := by simpa using c6
   refine Ag ⟨i + 1, v5, v30⟩ (by dsimp only; omega) (by dsimp only; omega) ⟨rfl, rfl, rfl, rfl, rfl, rfl, rfl, trivial⟩
    (.cons 2 rfl (.cons' 2 rfl ?_ (.cons' 0 rfl ?_ (.cons 1 rfl (B8 _ _)))))
   ·dsimp only; rw [Dz (E := E) hx, if_neg (by simpa using h6), List.append_nil]
   dsimp only; rw [Dz (E := E) hx, if_pos (by simpa using h6), AU]
  refine DC.region ?_
  iterate 2 refine Zm ?_
  refine Zw (AP (cs := #[_]) rfl rfl TT AQ B0 rfl (by decide) (by decide) rfl rfl) fun g33 => ?_
  refine Seq.gen rfl rfl (AK rfl rfl rfl TT AQ DE B0 rfl (by decide) (by decide) (fun w hw => hw.perm (AO (i := 2) rfl).symm) (.inl ⟨_, _, rfl, Ak rfl⟩) rfl (Bm [_] []) (by simp only [ints_length]; omega)) ?_
  rintro v34 _ rfl
  refine Za ?_
  refine Seq.nil <| Fin.inBlock <| Fin.then <| DC.region ?_
  refine Zp ?_
  refine Zm ?_
  refine Seq.nil ?_
  have h6 : ¬ srt (B.headD 0) x ∈ E := by simpa using c6
  refine Ag ⟨i + 1, v34, v6⟩ (by dsimp only; omega) (by dsimp only; omega) ⟨rfl, rfl, rfl, rfl, rfl, rfl, rfl, trivial⟩
   (.cons 2 rfl (.cons' 0 rfl ?_ (.cons' 1 rfl ?_ (.cons 1 rfl (B8 _ _)))))
  ·dsimp only; rw [Dz (E := E) hx, if_pos (by simpa using h6), AU]
  dsimp only; rw [Dz (E := E) hx, if_neg (by simpa using h6), List.append_nil]
 refine DC.exit <| Ad <| Ad <| Ah <| Fin.then <| DC.seq ?_
 have hie : i = B.length := by simp at c3; omega
 subst hie
 rw [List.take_length]
 have hl5 := List.length_filter_le (fun v => decide (srt (B.headD 0) v ∉ E)) B
 have hl6 := List.length_filter_le (fun v => decide (srt (B.headD 0) v ∈ E)) B
 refine DC.slcs (i := 2) (v := v6) (xs := B.filter fun v => decide (srt (B.headD 0) v ∈ E)) rfl (by omega) ?_
 rintro A6 c6' rfl hA6
 refine DC.region ?_
 iterate 2 refine Zm ?_
 have hsrc : Src w (idsOf (mpc encP gm m :: slc (.slice A B.length c) 3 1 (ints B) :: rowsC 3 cs)) (mpc encP gm m :: slc v5 3 1 (ints (B.filter fun v => decide (srt (B.headD 0) v ∉ E))) :: slc (.slice A6 (B.filter fun v => decide (srt (B.headD 0) v ∈ E)).length c6') 3 1 (ints (B.filter fun v => decide (srt (B.headD 0) v ∈ E))) :: slc (.slice A B.length c) 3 1 (ints B) :: rowsC 3 cs)
   (.slice A6 (B.filter fun v => decide (srt (B.headD 0) v ∈ E)).length c6') (B.filter fun v => decide (srt (B.headD 0) v ∈ E)).length (ints (B.filter fun v => decide (srt (B.headD 0) v ∈ E))) := by
  by_cases hz : (B.filter fun v => decide (srt (B.headD 0) v ∈ E)) = []
  ·rw [hz]
   cases A6 with
   | none => exact .inr ⟨_, rfl, rfl, rfl⟩
   | some ad => exact .inl ⟨ad, _, rfl, fun w hw j u hj => by simp [ints] at hj⟩
  obtain ⟨ad, rfl⟩ := hA6 hz
  exact .inl ⟨ad, _, rfl, Gu (i := 2) rfl (by omega)⟩
 refine Seq.gen rfl rfl (AK rfl rfl rfl TT AQ DE B0 rfl (by decide) (by decide) (fun w hw => hw.perm (AO (i := 1) rfl).symm) hsrc (by simp) (Bm _ []) (by simp only [ints_length]; omega)) ?_
 rintro v38 _ rfl
 refine Za ?_
 refine Zx <| DC.ret ?_
 refine Fin.weak (E' := [(4, _)]) (L' := mpc encP gm m :: slc v38 3 1 (ints (sidesOf E B)) :: rowsC 3 cs) ⟨rfl, trivial⟩ (.cons 1 rfl (.cons' 0 rfl (by unfold sidesOf; rw [AU]) (EW _ (B8 _ _)))) ?_
 refine Zh ?_
 rfl
end Go.Fl

namespace Go.Fl
open Go Go.Proofs
theorem PrV.src2 {w0 w : World} {L : List Chunk} {v : Value} {es : List Pr} (h : PrV w0 v es) : Src w0 [] L v es.length (prs es) := by
 obtain ⟨A, cap, rfl, hr, _, _, _⟩ := h
 refine Jx (m := 2) hr (by simp) (by simp) (fun hA => ?_)
 subst hA
 cases es with
 | nil => rfl
 | cons e r => obtain ⟨ad, e', _⟩ := hr.pair (i := 0) (e := e) rfl; cases e'
theorem SlV.src2 {w0 w : World} {L : List Chunk} {v : Value} {xs : List Int} (h : SlV w0 v xs) : Src w0 [] L v xs.length (ints xs) := by
 obtain ⟨A, cap, rfl, hr, _, _, _⟩ := h
 refine Jx (m := 1) hr (by simp) (by simp) (fun hA => ?_)
 subst hA
 cases xs with
 | nil => rfl
 | cons e r => obtain ⟨ad, e', _⟩ := hr.int (i := 0) (x := e) rfl; cases e'
/-- Lists of ours, seen as lists that are read. -/
theorem JO {w0 w : World} {K : List Nat} {F : List Chunk} {t t' : Nat} {v : Value} {rs : RL} (hw : Own w0 K w (slc v t' 1 (rowsV rs) :: (F ++ rowsC t rs))) (hb : rs.length ≤ 17592186044416) (hf : ∀ p, p ∈ rs → p.2.length ≤ 17592186044416) : LsV w v (rs.map Prod.snd) := by
 obtain ⟨A, len, cap, rfl, hl, hr, h1, h2⟩ := BW hw
 rw [rowsV_length, Nat.mul_one] at hl
 subst hl
 refine ⟨A, cap, by simp, fun i l hi => ?_, by simpa using h1, h2, by simpa using hb⟩
 rw [List.getElem?_map, Option.map_eq_some_iff] at hi
 obtain ⟨p, hp, rfl⟩ := hi
 have hg : (rowsV rs)[i]? = some p.1 := by simp [rowsV, hp]
 obtain ⟨ad, hA, hc⟩ := hr i p.1 hg
 refine ⟨ad, p.1, hA, hc, Hm (F := slc (.slice A rs.length cap) t' 1 (rowsV rs) :: F) (by simpa using hw) hp (hf p (TD hp))⟩
open Classical
noncomputable def tailP (pl : Bool) (bs : List UInt8) : Nat → Nat → List (List Int) → List Pr → Option (List (List Int) × List Pr × Nat)
 | 0, i, ls, cs => some (ls, cs, i)
 | k + 1, i, ls, cs => if pl then
   (match listP bs i with
   | none => none
   | some (l, j) => tailP pl bs k j (ls ++ [l]) cs)
  else
   (match edgeP bs i cs with
   | none => none
   | some (e, j) => tailP pl bs k j ls (cs ++ [e]))
noncomputable def midP (pl : Bool) (bs : List UInt8) : Option (Bool × List (List Int) × List Pr) :=
 if bs[1]? = some 32 then
  (match numP bs 2 with
  | none => none
  | some (k, j) => if (if pl then 1048576 else 4194304) < k then none else if bs[j]? = some 10 then
    (match tailP pl bs k.toNat (j + 1) [] [] with
    | none => none
    | some (ls, cs, e) => if e = bs.length then some (pl, ls, cs) else none)
   else none)
 else none
/-- What a certificate's text says. -/
noncomputable def certP (bs : List UInt8) : Option (Bool × List (List Int) × List Pr) :=
 if bs[0]? = some 112 then midP true bs else if bs[0]? = some 110 then midP false bs else none
theorem OG {P : Program} {w0 : World} {K : List Nat} {n : Nat} {ds : List Deferred} {E : Env} {L : List Chunk} {v : Value} {Q : Exit → Act → World → Prop} {c : Code} {t : Nat} {vs : List Value} (i : Nat) (hi : L[i]? = some (slc v t 1 vs)) (h : (∃ A c, v = .slice A vs.length c) → DC P w0 K n ds Q c E L) : DC P w0 K n ds Q c E L := by
 intro a w ha hw
 obtain ⟨A, len, cap, e, hl, _⟩ := BW (hw.perm (AO hi).symm)
 rw [Nat.mul_one] at hl
 exact h ⟨A, cap, by rw [hl]; exact e⟩ a w ha hw
theorem EF {w0 w : World} {K : List Nat} {c : Chunk} {F : List Chunk} {t t' m m' : Nat} (hw : Own w0 K w (c :: F)) : Own w0 K w [c, slc (.slice none 0 0) t m [], slc (.slice none 0 0) t' m' []] := by
 have h1 := AX (t := t) (m := m) (AX (t := t') (m := m') (hw.sub (L' := [c]) (.cons_cons _ (TH _))))
 exact h1.perm ((TR (l₁ := [c]) (l₂ := [slc (.slice none 0 0) t m [], slc (.slice none 0 0) t' m' []])))
structure CeI where
 i : Nat
 a : Nat
 bad : Int
 v : Value
 u : Value
 rs : RL
 cs : List Pr
theorem LL {g : Nat} {vb : Value} {bad : Int} {bs : List UInt8} {w : World} (hO : Own w (idsOf [rdC g vb 0 bad]) w [rdC g vb 0 bad]) (hB : ByV w vb bs) (ho : ByO vb bs (idsOf [rdC g vb 0 bad])) (hb : bs.length ≤ 33554432) :
  Calls Tryz.prog 40 #[.pointer (some ⟨g, 0, none⟩)] w (Ret w (idsOf [rdC g vb 0 bad]) fun r M => ∃ pl v u ok j bad' rs cs, r = .tuple #[.agg #[.bool pl, v, u], .bool ok] ∧ M = rdC g vb j bad' :: slc v 44 1 (rowsV rs) :: slc u 43 2 (prs cs) :: rowsC 3 rs ∧
   (rs.length ≤ 4194304 ∧ cs.length ≤ 4194304 ∧ ∀ p, p ∈ rs → p.2.length ≤ bs.length) ∧ (ok = true → certP bs = some (pl, rs.map Prod.snd, cs)) ∧ (ok = false → certP bs = none)) := by
 obtain ⟨A, cap, hvb, hR, hb1, hb2⟩ := id hB
 subst hvb
 refine Ao (args := [_]) Tryz.func40 rfl Tryz.ntmps40 rfl hO ?_
 refine Zs ?_
 refine Zw (AD rfl NK rfl) fun g2 => ?_
 refine Za ?_
 refine Zx <| Zs ?_
 refine Zw (AD rfl NK rfl) fun g4 => ?_
 refine Zx <| DC.seq ?_
 refine DC.own (M := [rdC g (.slice A bs.length cap) 0 bad, blk g4 27 #[.bool false, (.slice none 0 0), (.slice none 0 0)], blk g2 27 #[.bool false, (.slice none 0 0), (.slice none 0 0)]]) (fun w hw => hw.pick (.cons 2 rfl (.cons 0 rfl (.cons 0 rfl .nil)))) ?_
 refine DC.region ?_
 refine Zm ?_
 refine Seq.rel0 rfl rfl (Ar PP rfl rfl rfl (fun w hw => DN (i := 0) (bad := bad) (c := 112) (hw.holds _ (TI ..)) (hB.keep ho hw))) ?_
 rintro _ ⟨b14, rfl, hb14⟩
 refine Zf CU ?_
 refine Zy (AE (cs' := #[_, _, _]) rfl rfl rfl Ft rfl (TB rfl) rfl) ?_
 refine Zx ?_
 refine DC.cut (ι := Bool) (fun pl => certP bs = midP pl bs) (fun _ => [(0, .pointer (some ⟨g, 0, none⟩)), (2, .pointer (some ⟨g2, 0, none⟩)), (4, .pointer (some ⟨g4, 0, none⟩))])
  (fun pl => [rdC g (.slice A bs.length cap) 0 bad, blk g4 27 #[.bool pl, (.slice none 0 0), (.slice none 0 0)], blk g2 27 #[.bool false, (.slice none 0 0), (.slice none 0 0)]]) ?first4 ?rest4
 case first4 =>
  refine Zs ?_
  refine Zf CU ?_
  refine Zl II ?_
  refine Zo (Bd rfl rfl) ?_
  refine Zm ?_
  refine Seq.split 19 rfl (fun k3_3 => ?_) (fun k3_3 => ?_)
  ·refine Zm ?_
   refine Seq.rel0 rfl rfl (Ar PP rfl rfl rfl (fun w hw => DN (i := 0) (bad := bad) (c := 110) (hw.holds _ (TI ..)) (hB.keep ho hw))) ?_
   rintro _ ⟨b21, rfl, hb21⟩
   refine Zo (Bd rfl rfl) ?_
   refine Zt ?_
   refine Zx ?_
   refine Zd (fun c3 => ?_) fun c3 => ?_
   ·refine DC.seq ?_
    refine AF (cl := [.q, .q, .g, .g, .q]) (A := [0, 0, 2, 7, 15]) (order := [0, 1, 2, 3, 4]) ([blk g4 27 #[.bool b14, (.slice none 0 0), (.slice none 0 0)]]) mixed (by kernel_rfl) (fun w hw => hw.pick (.cons 1 rfl .nil)) ?_
    refine Flow.old rfl rfl rfl (Ay (vs := [_, _, _]) rfl rfl CD BV rfl (Ak rfl)) ?_
    refine Ym ?_
    refine Flow.gen0 rfl rfl rfl rfl (Bh IF rfl rfl rfl (Lc := [rdC g (.slice A bs.length cap) 0 bad]) (F := [blk g4 27 #[.bool b14, (.slice none 0 0), (.slice none 0 0)], blk g2 27 #[.bool false, (.slice none 0 0), (.slice none 0 0)]]) (.refl _) (fun k hk => hk) (fun w hw => BT (hw.sub (L' := [rdC g (.slice A bs.length cap) 0 bad]) (.cons_cons _ (TH _))).self)) (fun v L' hC w hw => hw.pick (by obtain ⟨_, ⟨_, _, rfl⟩, rfl⟩ := hC; exact .cons 1 rfl .nil)) ?_
    rintro _ _ ⟨_, ⟨rfl, bad4, rfl⟩, rfl⟩
    simp only [zs]
    refine AS rfl rfl rfl rfl (At (cs' := #[_, _, _]) rfl rfl rfl BV rfl (TB rfl) rfl) (fun w hw => hw.pick (.cons 1 rfl .nil)) ?_
    refine Yo rfl (AR rfl rfl) ?_
    refine Flow.end rfl ?_
    simp only [zq, zr]
    refine Fin.then <| DC.ret <| Aa ?_
    refine Bf (cs := #[_, _, _]) (.inl rfl) rfl rfl rfl CD BV ?_
    refine ⟨_, fun w hw => EF hw, b14, _, _, false, 0, bad4, [], [], rfl, rfl, by simp, by simp, fun _ => ?_⟩
    have h1 : ¬ bs[0]? = some 112 := fun h => by rw [hb14.2 h] at k3_3; simp at k3_3
    have h2 : ¬ bs[0]? = some 110 := fun h => by rw [hb21.2 h] at c3; simp at c3
    rw [certP, if_neg h1, if_neg h2]
   refine DC.skip ?_
   refine AG b14 ?_ ⟨rfl, rfl, rfl, trivial⟩ (Pick.all _)
   first
   | (have h1 : b14 = true := by simpa using k3_3
      rw [certP, if_pos (hb14.1 h1), h1])
   | (have h0 : b14 = false := by simpa using k3_3
      have h1 : ¬ bs[0]? = some 112 := fun h => by rw [hb14.2 h] at h0; cases h0
      have h2 : bs[0]? = some 110 := hb21.1 (by simpa using c3)
      rw [certP, if_neg h1, if_pos h2, h0])
  iterate 3 refine Zk ?_
  refine Zg ?_
  refine Zx ?_
  refine AT rfl ?_
  refine DC.skip ?_
  refine AG b14 ?_ ⟨rfl, rfl, rfl, trivial⟩ (Pick.all _)
  first
  | (have h1 : b14 = true := by simpa using k3_3
     rw [certP, if_pos (hb14.1 h1), h1])
  | (have h0 : b14 = false := by simpa using k3_3
     have h1 : ¬ bs[0]? = some 112 := fun h => by rw [hb14.2 h] at h0; cases h0
     have h2 : bs[0]? = some 110 := hb21.1 (by simpa using c3)
     rw [certP, if_neg h1, if_pos h2, h0])
 intro pl hcp
 unfold rdC
 unfold midP at hcp
 refine Zs ?_
 refine Zm ?_
 refine Zo (AH rfl rfl) ?_
 refine Zf BS ?_
 refine Zl AJ ?_
 refine Zp ?_
 refine Zo (AH rfl rfl) ?_
 refine Zf BS ?_
 refine Zy (AE (cs' := #[_, _, _]) rfl rfl rfl AQ rfl (TB rfl) rfl) ?_
 refine Seq.nil ?_
 refine Fin.weak (E' := [(0, .pointer (some ⟨g, 0, none⟩)), (2, .pointer (some ⟨g2, 0, none⟩)), (4, .pointer (some ⟨g4, 0, none⟩))]) ⟨rfl, rfl, rfl, trivial⟩ (L' := [rdC g (.slice A bs.length cap) 1 bad, blk g4 27 #[.bool pl, (.slice none 0 0), (.slice none 0 0)], blk g2 27 #[.bool false, (.slice none 0 0), (.slice none 0 0)]]) (.cons' 0 rfl rfl (.cons 0 rfl (.cons 0 rfl .nil))) ?_
 refine Fin.then <| DC.seq <| Zs ?_
 refine Zm ?_
 refine Seq.gen rfl rfl (Bh PO rfl rfl rfl (Lc := [rdC g (.slice A bs.length cap) 1 bad]) (F := [blk g4 27 #[.bool pl, (.slice none 0 0), (.slice none 0 0)], blk g2 27 #[.bool false, (.slice none 0 0), (.slice none 0 0)]]) (.refl _) (fun k hk => hk) (fun w hw => Dl (c := 32) (hw.sub (L' := [rdC g (.slice A bs.length cap) 1 bad]) (.cons_cons _ (TH _))).self (hB.keep ho hw) (ByO.step (L := [rdC g (.slice A bs.length cap) 1 bad]) hB ho (hw.sub (.cons_cons _ (TH _)))) hb)) ?_
 rintro _ _ ⟨_, ⟨b35, j2, bad2, rfl, rfl, hw1, hw2⟩, rfl⟩
 simp only [zs]
 refine Zo (Bd rfl rfl) ?_
 refine Zx ?_
 refine Zd (fun c6 => ?_) fun c6 => ?_
 ·rw [if_neg (hw2 (by simpa using c6)).1] at hcp
  refine Zs ?_
  refine Zu (Ay (vs := [_, _, _]) rfl rfl CD BV rfl (Ak rfl)) ?_
  refine Zy (At (cs' := #[_, _, _]) rfl rfl rfl BV rfl (TB rfl) rfl) ?_
  refine Za ?_
  refine Zx <| DC.ret <| Aa ?_
  refine Bf (cs := #[_, _, _]) (.inl rfl) rfl rfl rfl CD BV ?_
  exact ⟨_, fun w hw => EF hw, pl, _, _, false, j2, bad2, [], [], rfl, rfl, by simp, by simp, fun _ => hcp⟩
 obtain ⟨hb32, rfl, hj2l, rfl⟩ := hw1 (by simpa using c6)
 rw [if_pos hb32] at hcp
 refine DC.skip <| Fin.then <| Zs ?_
 refine Za ?_
 refine Zx ?_
 refine DC.cut (ι := Unit) (fun _ => True) (fun _ => [(0, .pointer (some ⟨g, 0, none⟩)), (2, .pointer (some ⟨g2, 0, none⟩)), (4, .pointer (some ⟨g4, 0, none⟩)), (5, .int .i64 (if pl then 1048576 else 4194304))])
  (fun _ => [rdC g (.slice A bs.length cap) (1 + 1) bad2, blk g4 27 #[.bool pl, (.slice none 0 0), (.slice none 0 0)], blk g2 27 #[.bool false, (.slice none 0 0), (.slice none 0 0)]]) ?first10 ?rest10
 case first10 =>
  refine Zs ?_
  refine Zf CU ?_
  refine Zl II ?_
  refine Zx ?_
  refine Zd (fun c9 => ?_) fun c9 => ?_
  ·refine DC.region ?_
   refine Za ?_
   refine Seq.nil ?_
   first
   | exact AG () trivial ⟨rfl, rfl, rfl, by show some (Value.int .i64 1048576) = _; rw [if_pos (by simpa using c9)], trivial⟩ (Pick.all _)
   | exact AG () trivial ⟨rfl, rfl, rfl, by show some (Value.int .i64 4194304) = _; rw [if_neg (by simpa using c9)], trivial⟩ (Pick.all _)
  refine DC.skip ?_
  first
  | exact AG () trivial ⟨rfl, rfl, rfl, by show some (Value.int .i64 1048576) = _; rw [if_pos (by simpa using c9)], trivial⟩ (Pick.all _)
  | exact AG () trivial ⟨rfl, rfl, rfl, by show some (Value.int .i64 4194304) = _; rw [if_neg (by simpa using c9)], trivial⟩ (Pick.all _)
 rintro ⟨⟩ _
 refine Zs ?_
 refine Zm ?_
 refine Seq.gen rfl rfl (Bh QX rfl rfl rfl (Lc := [rdC g (.slice A bs.length cap) (1 + 1) bad2]) (F := [blk g4 27 #[.bool pl, (.slice none 0 0), (.slice none 0 0)], blk g2 27 #[.bool false, (.slice none 0 0), (.slice none 0 0)]]) (.refl _) (fun k hk => hk) (fun w hw => Dd (hw.sub (L' := [rdC g (.slice A bs.length cap) (1 + 1) bad2]) (.cons_cons _ (TH _))).self (hB.keep ho hw) (ByO.step (L := [rdC g (.slice A bs.length cap) (1 + 1) bad2]) hB ho (hw.sub (.cons_cons _ (TH _)))) hb hj2l)) ?_
 rintro _ _ ⟨_, ⟨n, fine, j, bad3, rfl, rfl, ⟨hij, hjl⟩, hy1, hn1⟩, rfl⟩
 simp only [zs]
 refine Zm ?_
 iterate 3 refine Ze ?_
 iterate 3 refine Za ?_
 refine Zx <| DC.seq <| Zs ?_
 refine Zm ?_
 refine Zo (Bd rfl rfl) ?_
 refine Zx ?_
 refine Zd (fun c12 => ?_) fun c12 => ?_
 ·rw [hn1 (by simpa using c12)] at hcp
  dsimp only at hcp
  refine Zs ?_
  refine Zu (Ay (vs := [_, _, _]) rfl rfl CD BV rfl (Ak rfl)) ?_
  refine Zy (At (cs' := #[_, _, _]) rfl rfl rfl BV rfl (TB rfl) rfl) ?_
  refine Za ?_
  refine Zx <| DC.ret <| Aa ?_
  refine Bf (cs := #[_, _, _]) (.inl rfl) rfl rfl rfl CD BV ?_
  exact ⟨_, fun w hw => EF hw, pl, _, _, false, j, bad3, [], [], rfl, rfl, by simp, by simp, fun _ => hcp⟩
 obtain ⟨hnum, hij', rfl, hn0, hn9⟩ := hy1 (by simpa using c12)
 rw [hnum] at hcp
 dsimp only at hcp
 obtain ⟨kn, rfl⟩ : ∃ kn : Nat, n = kn := ⟨n.toNat, by omega⟩
 rw [TC] at hcp
 refine DC.skip <| Fin.then <| DC.seq <| Zs ?_
 iterate 2 refine Zm ?_
 refine Zo (Bs rfl rfl rfl) ?_
 refine Zx ?_
 refine Zd (fun c14 => ?_) fun c14 => ?_
 ·have hlim : (if pl = true then (1048576 : Int) else 4194304) < kn := by simpa using c14
  rw [if_pos hlim] at hcp
  refine DC.seq ?_
  refine AF (cl := [.q, .q, .q, .g, .g, .q]) (A := [0, 0, 0, 6, 15, 31]) (order := [0, 1, 2, 3, 4, 5]) ([blk g4 27 #[.bool pl, (.slice none 0 0), (.slice none 0 0)]]) mixed (by kernel_rfl) (fun w hw => hw.pick (.cons 1 rfl .nil)) ?_
  refine Flow.old rfl rfl rfl (Ay (vs := [_, _, _]) rfl rfl CD BV rfl (Ak rfl)) ?_
  iterate 2 refine Ym ?_
  refine Flow.gen0 rfl rfl rfl rfl (Bh IF rfl rfl rfl (Lc := [rdC g (.slice A bs.length cap) j bad3]) (F := [blk g4 27 #[.bool pl, (.slice none 0 0), (.slice none 0 0)], blk g2 27 #[.bool false, (.slice none 0 0), (.slice none 0 0)]]) (.refl _) (fun k hk => hk) (fun w hw => BT (hw.sub (L' := [rdC g (.slice A bs.length cap) j bad3]) (.cons_cons _ (TH _))).self)) (fun v L' hC w hw => hw.pick (by obtain ⟨_, ⟨_, _, rfl⟩, rfl⟩ := hC; exact .cons 1 rfl .nil)) ?_
  rintro _ _ ⟨_, ⟨rfl, bad4, rfl⟩, rfl⟩
  simp only [zs]
  refine AS rfl rfl rfl rfl (At (cs' := #[_, _, _]) rfl rfl rfl BV rfl (TB rfl) rfl) (fun w hw => hw.pick (.cons 1 rfl .nil)) ?_
  refine Yo rfl (AR rfl rfl) ?_
  refine Flow.end rfl ?_
  simp only [zq, zr]
  refine Fin.then <| DC.ret <| Aa ?_
  refine Bf (cs := #[_, _, _]) (.inl rfl) rfl rfl rfl CD BV ?_
  exact ⟨_, fun w hw => EF hw, pl, _, _, false, j, bad4, [], [], rfl, rfl, by simp, by simp, fun _ => hcp⟩
 have hlim : ¬ (if pl = true then (1048576 : Int) else 4194304) < kn := by simpa using c14
 rw [if_neg hlim] at hcp
 have hkn : kn ≤ 4194304 := by split at hlim <;> omega
 refine DC.skip <| Fin.then <| DC.seq <| Zs ?_
 refine Zm ?_
 refine Seq.gen rfl rfl (Bh PO rfl rfl rfl (Lc := [rdC g (.slice A bs.length cap) j bad3]) (F := [blk g4 27 #[.bool pl, (.slice none 0 0), (.slice none 0 0)], blk g2 27 #[.bool false, (.slice none 0 0), (.slice none 0 0)]]) (.refl _) (fun k hk => hk) (fun w hw => Dl (c := 10) (hw.sub (L' := [rdC g (.slice A bs.length cap) j bad3]) (.cons_cons _ (TH _))).self (hB.keep ho hw) (ByO.step (L := [rdC g (.slice A bs.length cap) j bad3]) hB ho (hw.sub (.cons_cons _ (TH _)))) hb)) ?_
 rintro _ _ ⟨_, ⟨b57, j5, bad5, rfl, rfl, hw3, hw4⟩, rfl⟩
 simp only [zs]
 refine Zo (Bd rfl rfl) ?_
 refine Zx ?_
 refine Zd (fun c16 => ?_) fun c16 => ?_
 ·rw [if_neg (hw4 (by simpa using c16)).1] at hcp
  refine Zs ?_
  refine Zu (Ay (vs := [_, _, _]) rfl rfl CD BV rfl (Ak rfl)) ?_
  refine Zy (At (cs' := #[_, _, _]) rfl rfl rfl BV rfl (TB rfl) rfl) ?_
  refine Za ?_
  refine Zx <| DC.ret <| Aa ?_
  refine Bf (cs := #[_, _, _]) (.inl rfl) rfl rfl rfl CD BV ?_
  exact ⟨_, fun w hw => EF hw, pl, _, _, false, j5, bad5, [], [], rfl, rfl, by simp, by simp, fun _ => hcp⟩
 obtain ⟨hb10, hj5, hj5l, rfl⟩ := hw3 (by simpa using c16)
 rw [if_pos hb10, ← hj5] at hcp
 refine DC.skip <| Fin.then <| DC.seq <| Zs ?_
 iterate 2 refine Zm ?_
 refine Zx <| DC.block ?_
 refine DC.own (M := rdC g (.slice A bs.length cap) j5 bad5 :: blk g4 27 #[.bool pl, (.slice none 0 0), (.slice none 0 0)] :: blk g2 27 #[.bool false, (.slice none 0 0), (.slice none 0 0)] :: slc (.slice none 0 0) 44 1 (rowsV []) :: slc (.slice none 0 0) 43 2 (prs []) :: rowsC 3 []) (fun w hw => ?_) ?_
 ·have h1 := AX (t := 44) (m := 1) (AX (t := 43) (m := 2) hw)
  exact h1.perm (TR (l₁ := [rdC g (.slice A bs.length cap) j5 bad5, blk g4 27 #[.bool pl, (.slice none 0 0), (.slice none 0 0)], blk g2 27 #[.bool false, (.slice none 0 0), (.slice none 0 0)]]) (l₂ := [slc (.slice none 0 0) 44 1 [], slc (.slice none 0 0) 43 2 []]))
 refine DC.loop (ι := CeI) (fun q => (q.i ≤ kn ∧ q.a ≤ bs.length) ∧ (q.rs.length ≤ q.i ∧ q.cs.length ≤ q.i ∧ ∀ p, p ∈ q.rs → p.2.length ≤ bs.length) ∧ tailP pl bs kn j5 [] [] = tailP pl bs (kn - q.i) q.a (q.rs.map Prod.snd) q.cs)
  (fun q => [(0, .pointer (some ⟨g, 0, none⟩)), (2, .pointer (some ⟨g2, 0, none⟩)), (4, .pointer (some ⟨g4, 0, none⟩)), (60, .int .i64 kn), (61, .int .i64 (q.i : Nat))])
  (fun q => rdC g (.slice A bs.length cap) q.a q.bad :: blk g4 27 #[.bool pl, q.v, q.u] :: blk g2 27 #[.bool false, (.slice none 0 0), (.slice none 0 0)] :: slc q.v 44 1 (rowsV q.rs) :: slc q.u 43 2 (prs q.cs) :: rowsC 3 q.rs) (fun q => kn - q.i) ⟨0, j5, bad5, (.slice none 0 0), (.slice none 0 0), [], []⟩
  ⟨⟨Nat.zero_le _, hj5l⟩, ⟨by simp, by simp, by simp⟩, rfl⟩ ⟨rfl, rfl, rfl, rfl, rfl, trivial⟩ (Pick.all _) ?_
 rintro ⟨i, a, bad6, v, u, rs, cs⟩ ⟨⟨hik, hal⟩, ⟨hrl, hcl, hrw⟩, htl⟩
 dsimp only at hik hal hrl hcl hrw htl ⊢
 refine OG 3 rfl ?_
 rintro ⟨Av, cv, rfl⟩
 refine Gz (i := 4) rfl (by omega) ?_
 rintro ⟨Au, cu, rfl⟩
 refine Zs ?_
 refine Zc ?_
 refine Zx <| DC.seq ?_
 refine Zd (fun c19 => ?_) fun c19 => ?_
 ·have hikl : i < kn := by simpa using c19
  obtain ⟨m, hm⟩ : ∃ m, kn - i = m + 1 := ⟨kn - i - 1, by omega⟩
  have hm' : kn - (i + 1) = m := by omega
  rw [hm, tailP] at htl
  have hnone : tailP pl bs kn j5 [] [] = none → certP bs = none := fun h => by rw [hcp, h]
  refine DC.skip <| Fin.then <| DC.seq <| DC.block <| DC.seq <| Zs ?_
  refine Zf CU ?_
  refine Zl II ?_
  refine Zx ?_
  refine Zd (fun c20 => ?_) fun c20 => ?_
  ·have hpl : pl = true := by simpa using c20
   rw [if_pos hpl] at htl
   refine Zs ?_
   refine Zm ?_
   refine Seq.gen rfl rfl (Bh en80 rfl rfl rfl (Lc := [rdC g (.slice A bs.length cap) a bad6]) (F := (blk g4 27 #[.bool pl, .slice Av (rowsV rs).length cv, .slice Au cs.length cu] :: blk g2 27 #[.bool false, (.slice none 0 0), (.slice none 0 0)] :: slc (.slice Av (rowsV rs).length cv) 44 1 (rowsV rs) :: slc (.slice Au cs.length cu) 43 2 (prs cs) :: rowsC 3 rs)) (.refl _) (fun k hk => hk) (fun w hw => LG (hw.sub (L' := [rdC g (.slice A bs.length cap) a bad6]) (.cons_cons _ (TH _))).self (hB.keep ho hw) (ByO.step (L := [rdC g (.slice A bs.length cap) a bad6]) hB ho (hw.sub (.cons_cons _ (TH _)))) hb hal)) ?_
   rintro _ _ ⟨_, ⟨vl, ok, xs, j7, bad7, rfl, rfl, ⟨haj, hj7l, hxl⟩, hy7, hn7⟩, rfl⟩
   simp only [zs]
   refine Zm ?_
   iterate 2 refine Ze ?_
   iterate 2 refine Za ?_
   refine Zx <| DC.seq <| Zs ?_
   refine Zm ?_
   refine Zo (Bd rfl rfl) ?_
   refine Zx ?_
   refine Zd (fun c22 => ?_) fun c22 => ?_
   ·rw [hn7 (by simpa using c22)] at htl
    refine Zs ?_
    refine Zu (Ay (vs := [_, _, _]) rfl rfl CD BV rfl (Ak rfl)) ?_
    refine Zy (At (cs' := #[_, _, _]) rfl rfl rfl BV rfl (TB rfl) rfl) ?_
    refine Za ?_
    refine Zx <| DC.ret <| Aa <| Aa <| Ae <| Aa <| Aa <| Ae <| Aa ?_
    refine Bf (cs := #[_, _, _]) (.inl rfl) rfl rfl rfl CD BV ?_
    exact ⟨rdC g (.slice A bs.length cap) j7 bad7 :: slc (.slice Av (rowsV rs).length cv) 44 1 (rowsV rs) :: slc (.slice Au cs.length cu) 43 2 (prs cs) :: rowsC 3 rs, fun w hw => hw.sub (.cons_cons _ (.cons _ (.cons _ (.cons _ (List.Sublist.refl _))))), pl, _, _, false, j7, bad7, rs, cs, rfl, rfl, ⟨by omega, by omega, hrw⟩, by simp, fun _ => hnone htl⟩
   rw [hy7 (by simpa using c22)] at htl
   dsimp only at htl
   refine DC.slcs (i := 1) (v := vl) rfl (by omega) ?_
   rintro Al cl rfl _
   refine DC.skip <| Fin.then <| Zs ?_
   refine Zf CT ?_
   refine Zl Ek ?_
   refine Zm ?_
   refine Zw (AP (cs := #[_]) rfl rfl TW BE Da rfl (by decide) (by decide) rfl rfl) fun g76 => ?_
   refine Seq.gen rfl rfl (Gen.shape (AK (F := blk g76 44 #[.slice Al xs.length cl] :: rdC g (.slice A bs.length cap) j7 bad7 :: slc (.slice Al xs.length cl) 3 1 (ints xs) :: blk g4 27 #[.bool pl, .slice Av (rowsV rs).length cv, .slice Au cs.length cu] :: blk g2 27 #[.bool false, (.slice none 0 0), (.slice none 0 0)] :: slc (.slice Au cs.length cu) 43 2 (prs cs) :: rowsC 3 rs) (vs := rowsV rs) (k := 1) (news := [.slice Al xs.length cl]) rfl rfl rfl TW BE IH Da rfl (by decide) (by decide)
    (fun w hw => hw.pick (.cons 5 rfl (Pick.all _))) (.inl ⟨_, _, rfl, Ak rfl⟩) rfl (fun u hu => by rw [List.mem_singleton.1 hu]; rfl) (by rw [rowsV_length]; omega))) ?_
   rintro _ _ ⟨⟨A77, l77, c77, rfl⟩, rfl⟩
   refine Zf CT ?_
   refine Zy (AE (cs' := #[_, _, _]) rfl rfl rfl Qv rfl (TB rfl) rfl) ?_
   refine Zx <| DC.exit <| Ad <| Ah <| Fin.then <| DC.region ?_
   refine Zp ?_
   refine Zm ?_
   refine Seq.nil ?_
   refine Fin.own (M := rdC g (.slice A bs.length cap) j7 bad7 :: blk g4 27 #[.bool pl, .slice A77 l77 c77, .slice Au cs.length cu] :: blk g2 27 #[.bool false, (.slice none 0 0), (.slice none 0 0)] :: slc (.slice A77 l77 c77) 44 1 (rowsV (rs ++ [(.slice Al xs.length cl, xs)])) :: slc (.slice Au cs.length cu) 43 2 (prs cs) :: rowsC 3 (rs ++ [(.slice Al xs.length cl, xs)])) (fun w hw => ?_) ?_
   ·have e1 : rowsV (rs ++ [(.slice Al xs.length cl, xs)]) = rowsV rs ++ [.slice Al xs.length cl] := by simp [rowsV]
    have e2 : rowsC 3 (rs ++ [(.slice Al xs.length cl, xs)]) = rowsC 3 rs ++ [slc (.slice Al xs.length cl) 3 1 (ints xs)] := by simp [rowsC]
    rw [e1, e2]
    have k3 : Own _ _ w (slc (.slice Al xs.length cl) 3 1 (ints xs) :: _) := hw.pick (.cons 3 rfl (.cons 2 rfl (.cons 2 rfl (.cons 2 rfl (.cons 0 rfl (.cons 1 rfl (B8 _ _)))))))
    refine k3.perm ?_
    exact TR (l₁ := rdC g (.slice A bs.length cap) j7 bad7 :: blk g4 27 #[.bool pl, .slice A77 l77 c77, .slice Au cs.length cu] :: blk g2 27 #[.bool false, (.slice none 0 0), (.slice none 0 0)] :: slc (.slice A77 l77 c77) 44 1 (rowsV rs ++ [.slice Al xs.length cl]) :: slc (.slice Au cs.length cu) 43 2 (prs cs) :: rowsC 3 rs) (l₂ := [slc (.slice Al xs.length cl) 3 1 (ints xs)])
   refine Ag ⟨i + 1, j7, bad7, .slice A77 l77 c77, .slice Au cs.length cu, rs ++ [(.slice Al xs.length cl, xs)], cs⟩ (by dsimp only; omega) ⟨⟨by dsimp only; omega, by dsimp only; omega⟩, ⟨by simp; omega, by dsimp only; omega, ?_⟩, ?_⟩ ⟨rfl, rfl, rfl, rfl, rfl, trivial⟩ (Pick.all _)
   ·intro p hp
    rcases List.mem_append.1 hp with h | h
    ·exact hrw p h
    simp at h; subst h; exact hxl
   dsimp only
   rw [hm', List.map_append]; exact htl
  have hpl : pl = false := by simpa using c20
  rw [if_neg (by simp [hpl])] at htl
  refine DC.skip <| Fin.then <| Zs ?_
  refine Zm ?_
  refine Zf Cr ?_
  refine Zl Bu ?_
  refine Seq.gen rfl rfl (Bh en81 rfl rfl rfl (Lc := [rdC g (.slice A bs.length cap) a bad6]) (F := (blk g4 27 #[.bool pl, .slice Av (rowsV rs).length cv, .slice Au cs.length cu] :: blk g2 27 #[.bool false, (.slice none 0 0), (.slice none 0 0)] :: slc (.slice Av (rowsV rs).length cv) 44 1 (rowsV rs) :: slc (.slice Au cs.length cu) 43 2 (prs cs) :: rowsC 3 rs)) (.refl _) (fun k hk => hk) (fun w hw => LK (es := cs) (hw.sub (L' := [rdC g (.slice A bs.length cap) a bad6]) (.cons_cons _ (TH _))).self (hB.keep ho hw) (ByO.step (L := [rdC g (.slice A bs.length cap) a bad6]) hB ho (hw.sub (.cons_cons _ (TH _)))) hb hal
   (fun w' L' hO' => CX ((Own.frame (Lc := [rdC g (.slice A bs.length cap) a bad6]) (F := (blk g4 27 #[.bool pl, .slice Av (rowsV rs).length cv, .slice Au cs.length cu] :: blk g2 27 #[.bool false, (.slice none 0 0), (.slice none 0 0)] :: slc (.slice Av (rowsV rs).length cv) 44 1 (rowsV rs) :: slc (.slice Au cs.length cu) 43 2 (prs cs) :: rowsC 3 rs)) hw hO' (fun k hk => hk)).sub (List.sublist_append_right _ _)) 3 rfl (by omega)))) ?_
  rintro _ _ ⟨_, ⟨ea, eb, ok, j8, bad8, rfl, rfl, hj8l, hy8, hn8⟩, rfl⟩
  simp only [zs]
  refine Zm ?_
  iterate 2 refine Ze ?_
  refine Zw (AD rfl CE rfl) fun g11 => ?_
  refine Zy (At (cs' := #[_, _]) rfl rfl rfl AY rfl (TB rfl) rfl) ?_
  refine Za ?_
  refine Zx <| DC.seq <| Zs ?_
  refine Zm ?_
  refine Zo (Bd rfl rfl) ?_
  refine Zx ?_
  refine Zd (fun c26 => ?_) fun c26 => ?_
  ·rw [hn8 (by simpa using c26)] at htl
   refine Zs ?_
   refine Zu (Ay (vs := [_, _, _]) rfl rfl CD BV rfl (Ak rfl)) ?_
   refine Zy (At (cs' := #[_, _, _]) rfl rfl rfl BV rfl (TB rfl) rfl) ?_
   refine Za ?_
   refine Zx <| DC.ret <| Aa <| Ae <| Aa <| Aa <| Ae <| Aa ?_
   refine Bf (cs := #[_, _, _]) (.inl rfl) rfl rfl rfl CD BV ?_
   exact ⟨rdC g (.slice A bs.length cap) j8 bad8 :: slc (.slice Av (rowsV rs).length cv) 44 1 (rowsV rs) :: slc (.slice Au cs.length cu) 43 2 (prs cs) :: rowsC 3 rs, fun w hw => hw.pick (.cons 1 rfl (.cons 3 rfl (.cons 3 rfl (EW _ (EW _ (B8 _ _)))))), pl, _, _, false, j8, bad8, rs, cs, rfl, rfl, ⟨by omega, by omega, hrw⟩, by simp, fun _ => hnone htl⟩
  rw [hy8 (by simpa using c26)] at htl
  dsimp only at htl
  refine DC.skip <| Fin.then <| DC.region ?_
  refine Zf Cr ?_
  refine Zl Bu ?_
  refine Zu (Ay (vs := [_, _]) rfl rfl B3 AY rfl (Ak rfl)) ?_
  refine Zw (AP (cs := #[_, _]) rfl rfl TU AY CE rfl (by decide) (by decide) rfl rfl) fun g92 => ?_
  refine Seq.gen rfl rfl (Gen.shape (AK (F := blk g92 43 #[.int .i64 ea, .int .i64 eb] :: blk g11 43 #[.int .i64 ea, .int .i64 eb] :: rdC g (.slice A bs.length cap) j8 bad8 :: blk g4 27 #[.bool pl, .slice Av (rowsV rs).length cv, .slice Au cs.length cu] :: blk g2 27 #[.bool false, (.slice none 0 0), (.slice none 0 0)] :: slc (.slice Av (rowsV rs).length cv) 44 1 (rowsV rs) :: rowsC 3 rs) (vs := prs cs) (k := 1) (news := [.int .i64 ea, .int .i64 eb]) rfl rfl rfl TU AY P9 CE rfl (by decide) (by decide)
   (fun w hw => hw.pick (.cons 6 rfl (Pick.all _))) (.inl ⟨_, _, rfl, Ak rfl⟩) rfl (by intro u hu; simp at hu; rcases hu with rfl | rfl <;> rfl) (by rw [prs_length]; omega))) ?_
  rintro _ _ ⟨⟨A93, l93, c93, rfl⟩, rfl⟩
  refine Zf Cr ?_
  refine Zy (AE (cs' := #[_, _, _]) rfl rfl rfl Sf rfl (TB rfl) rfl) ?_
  refine Seq.nil <| Fin.inBlock <| Fin.then <| DC.region ?_
  refine Zp ?_
  refine Zm ?_
  refine Seq.nil ?_
  refine Ag ⟨i + 1, j8, bad8, .slice Av (rowsV rs).length cv, .slice A93 l93 c93, rs, cs ++ [(ea, eb)]⟩ (by dsimp only; omega) ⟨⟨by dsimp only; omega, by dsimp only; omega⟩, ⟨by dsimp only; omega, by simp; omega, hrw⟩, ?_⟩ ⟨rfl, rfl, rfl, rfl, rfl, trivial⟩ (.cons 3 rfl (.cons 3 rfl (.cons 3 rfl (.cons 3 rfl (.cons' 0 rfl (by dsimp only; rw [Dm]; rfl) (EW _ (B8 _ _)))))))
  dsimp only
  rw [hm']; exact htl
 refine DC.exit <| Ad <| Ad <| Ah <| Fin.then <| DC.seq ?_
 have hik2 : i = kn := by simp at c19; omega
 subst hik2
 rw [Nat.sub_self, tailP] at htl
 rw [htl] at hcp
 dsimp only at hcp
 unfold rdC
 refine AF (cl := [.q, .q, .q, .q, .v, .q, .q, .q, .v, .q, .q, .q, .q, .q, .q, .q, .v, .g, .q, .g, .q]) (A := [0, 0, 2, 6, 14, 0, 32, 96, 224, 480, 1022, 2046, 4094, 4094, 12286, 28670, 61438, 131070, 262142, 262143, 1048575]) (order := [0, 1, 2, 3, 4, 5, 6, 7, 8, 9, 10, 11, 12, 13, 14, 15, 16, 17, 18, 19, 20]) ([blk g4 27 #[.bool pl, .slice Av (rowsV rs).length cv, .slice Au cs.length cu]]) mixed (by kernel_rfl) (fun w hw => hw.pick (.cons 1 rfl .nil)) ?_
 refine Flow.old rfl rfl rfl (Ay (vs := [_, _, _]) rfl rfl CD BV rfl (Ak rfl)) ?_
 refine Ym ?_
 refine Yo rfl (AH rfl rfl) ?_
 refine Yf BS ?_
 refine Yl AJ ?_
 refine Ym ?_
 refine Yo rfl (AH rfl rfl) ?_
 refine Yf EL ?_
 refine Yl E4 ?_
 refine Yo rfl (CC rfl rfl TV) ?_
 refine Yo rfl (AN rfl rfl rfl) ?_
 refine Ym ?_
 refine Flow.split 107 rfl (fun k30_11 => ?_) (fun k30_11 => ?_)
 ·refine Yk ?_
  iterate 5 refine Yk ?_
  refine Yo rfl (A7 rfl rfl rfl) ?_
  refine AS rfl rfl rfl rfl (At (cs' := #[_, _, _]) rfl rfl rfl BV rfl (TB rfl) rfl) (fun w hw => hw.pick (.cons 1 rfl .nil)) ?_
  refine Yo rfl (AR rfl rfl) ?_
  refine Flow.end rfl ?_
  simp only [zq, zr]
  refine Fin.then <| DC.ret ?_
  refine Bf (cs := #[_, _, _]) (.inl rfl) rfl rfl rfl CD BV ?_
  have hae : a = bs.length := by have := of_decide_eq_true k30_11; omega
  rw [if_pos hae] at hcp
  exact ⟨rdC g (.slice A bs.length cap) a bad6 :: slc (.slice Av (rowsV rs).length cv) 44 1 (rowsV rs) :: slc (.slice Au cs.length cu) 43 2 (prs cs) :: rowsC 3 rs, fun w hw => hw.sub (.cons_cons _ (.cons _ (.cons _ (List.Sublist.refl _)))), pl, _, _, true, a, bad6, rs, cs, rfl, rfl, ⟨by omega, by omega, hrw⟩, fun _ => hcp, by simp⟩
 iterate 2 refine Ym ?_
 refine Yo rfl (AH rfl rfl) ?_
 refine Yf BS ?_
 refine Yl AJ ?_
 refine Flow.gen0 rfl rfl rfl rfl (Bh IF rfl rfl rfl (Lc := [rdC g (.slice A bs.length cap) a bad6]) (F := (blk g4 27 #[.bool pl, .slice Av (rowsV rs).length cv, .slice Au cs.length cu] :: blk g2 27 #[.bool false, (.slice none 0 0), (.slice none 0 0)] :: slc (.slice Av (rowsV rs).length cv) 44 1 (rowsV rs) :: slc (.slice Au cs.length cu) 43 2 (prs cs) :: rowsC 3 rs)) (.refl _) (fun k hk => hk) (fun w hw => BT (hw.sub (L' := [rdC g (.slice A bs.length cap) a bad6]) (.cons_cons _ (TH _))).self)) (fun v L' hC w hw => hw.pick (by obtain ⟨_, ⟨_, _, rfl⟩, rfl⟩ := hC; exact .cons 1 rfl .nil)) ?_
 rintro _ _ ⟨_, ⟨rfl, bad9, rfl⟩, rfl⟩
 simp only [zs]
 unfold rdC
 refine Yo rfl (AZ rfl rfl rfl) ?_
 refine AS rfl rfl rfl rfl (At (cs' := #[_, _, _]) rfl rfl rfl BV rfl (TB rfl) rfl) (fun w hw => hw.pick (.cons 1 rfl .nil)) ?_
 refine Yo rfl (AR rfl rfl) ?_
 refine Flow.end rfl ?_
 simp only [zq, zr]
 refine Fin.then <| DC.ret ?_
 refine Bf (cs := #[_, _, _]) (.inl rfl) rfl rfl rfl CD BV ?_
 have hae : ¬ a = bs.length := by have := of_decide_eq_false k30_11; omega
 rw [if_neg hae] at hcp
 exact ⟨rdC g (.slice A bs.length cap) a bad9 :: slc (.slice Av (rowsV rs).length cv) 44 1 (rowsV rs) :: slc (.slice Au cs.length cu) 43 2 (prs cs) :: rowsC 3 rs, fun w hw => hw.sub (.cons_cons _ (.cons _ (.cons _ (List.Sublist.refl _)))), pl, _, _, false, a, bad9, rs, cs, rfl, rfl, ⟨by omega, by omega, hrw⟩, by simp, fun _ => hcp⟩
end Go.Fl

namespace Go.Fl
open Go Go.Proofs
theorem JC (a b c d : Int) (w : World) : Calls Tryz.prog 35 #[.agg #[.int .i64 a, .int .i64 b], .agg #[.int .i64 c, .int .i64 d]] w (Ret w [] fun v L => L = [] ∧ ∃ r, v = .bool r ∧ (r = true ↔ Lex (a, b) (c, d))) := by
 refine Ao (args := [_, _]) (L := []) Tryz.func35 rfl Tryz.ntmps35 rfl (Own.start _ _) ?_
 refine Zs ?_
 refine Zw (Ba rfl rfl rfl) fun g2 => ?_
 refine Zw (Ba rfl rfl rfl) fun g3 => ?_
 refine Za ?_
 refine Zx <| Zs ?_
 refine Zf Bb ?_
 refine Zl AJ ?_
 refine Zf Bb ?_
 refine Zl AJ ?_
 refine Zc ?_
 refine Zm ?_
 refine Seq.split 10 rfl (fun k1_5 => ?_) (fun k1_5 => ?_)
 ·refine Zk ?_
  iterate 11 refine Zk ?_
  refine Zt ?_
  refine Za ?_
  refine Zx <| DC.ret ?_
  refine Fin.weak (E' := [(4, _)]) ⟨rfl, trivial⟩ .nil ?_
  refine Zh ?_
  refine ⟨rfl, _, rfl, ?_⟩
  unfold Lex
  first
  | (simp at k1_5 ⊢; omega)
  | (simp at k1_5 k1_11 ⊢; omega)
 refine Zf Bb ?_
 refine Zl AJ ?_
 refine Zf Bb ?_
 refine Zl AJ ?_
 refine Zo (AN rfl rfl rfl) ?_
 refine Zm ?_
 refine Seq.split 16 rfl (fun k1_11 => ?_) (fun k1_11 => ?_)
 ·refine Zf Bk ?_
  refine Zl AJ ?_
  refine Zf Bk ?_
  refine Zl AJ ?_
  refine Zc ?_
  refine Zt ?_
  refine Zg ?_
  refine Za ?_
  refine Zx <| DC.ret ?_
  refine Fin.weak (E' := [(4, _)]) ⟨rfl, trivial⟩ .nil ?_
  refine Zh ?_
  refine ⟨rfl, _, rfl, ?_⟩
  unfold Lex
  first
  | (simp at k1_5 ⊢; omega)
  | (simp at k1_5 k1_11 ⊢; omega)
 iterate 5 refine Zk ?_
 iterate 2 refine Zg ?_
 refine Za ?_
 refine Zx <| DC.ret ?_
 refine Fin.weak (E' := [(4, _)]) ⟨rfl, trivial⟩ .nil ?_
 refine Zh ?_
 refine ⟨rfl, _, rfl, ?_⟩
 unfold Lex
 first
 | (simp at k1_5 ⊢; omega)
 | (simp at k1_5 k1_11 ⊢; omega)
theorem B2 {N : Int} {es : List Pr} {va : Value} {w : World} (hg : PrV w va es) :
  Calls Tryz.prog 14 #[.agg #[.int .i64 N, va]] w (Ret w [] fun v L => L = [] ∧ ∃ b, v = .bool b ∧ (b = true ↔ Vld N es)) := by
 obtain ⟨A, cap, rfl, hr, hlc, hcm, hl⟩ := hg
 refine Ao (args := [_]) (L := []) Tryz.func14 rfl Tryz.ntmps14 rfl (Own.start _ _) ?_
 refine Zs ?_
 refine Zw (Ba rfl rfl rfl) fun g1 => ?_
 refine Za ?_
 refine Zx <| DC.seq <| Zs ?_
 refine Zf BI ?_
 refine Zl AJ ?_
 refine Zc ?_
 refine Zm ?_
 refine Seq.split 9 rfl (fun k1_3 => ?_) (fun k1_3 => ?_)
 ·refine Zk ?_
  iterate 2 refine Zk ?_
  refine Zt ?_
  refine Zm ?_
  iterate 4 refine Zk ?_
  refine Zt ?_
  refine Zx ?_
  refine AI rfl ?_
  refine Zs ?_
  refine Za ?_
  refine Zx <| DC.ret <| Aa ?_
  refine Fin.weak (E' := [(2, _)]) ⟨rfl, trivial⟩ .nil ?_
  refine Zh ?_
  exact ⟨rfl, false, rfl, by simp; intro h; have := h.lo; simp at k1_3; omega⟩
 refine Zf BI ?_
 refine Zl AJ ?_
 refine Zo (Bs rfl rfl rfl) ?_
 refine Zg ?_
 refine Zm ?_
 refine Seq.split 14 rfl (fun k1_8 => ?_) (fun k1_8 => ?_)
 ·refine Zk ?_
  iterate 3 refine Zk ?_
  refine Zt ?_
  refine Zx ?_
  refine AI rfl ?_
  refine Zs ?_
  refine Za ?_
  refine Zx <| DC.ret <| Aa ?_
  refine Fin.weak (E' := [(2, _)]) ⟨rfl, trivial⟩ .nil ?_
  refine Zh ?_
  exact ⟨rfl, false, rfl, by simp; intro h; have := h.hi; simp at k1_8; omega⟩
 refine Zf Be ?_
 refine Zl Bu ?_
 refine Zn TU ?_
 refine Zo (Bs rfl rfl rfl) ?_
 refine Zg ?_
 refine Zx ?_
 refine Zd (fun c1 => ?_) fun c1 => ?_
 ·refine Zs ?_
  refine Za ?_
  refine Zx <| DC.ret <| Aa ?_
  refine Fin.weak (E' := [(2, _)]) ⟨rfl, trivial⟩ .nil ?_
  refine Zh ?_
  exact ⟨rfl, false, rfl, by simp; intro h; have := h.few; simp at c1; omega⟩
 refine DC.skip <| Fin.then <| DC.seq <| Zs ?_
 refine Za ?_
 refine Zx <| DC.block ?_
 refine DC.loop (ι := Nat) (fun i => i ≤ es.length ∧ (∀ (j : Nat) e, j < i → es[j]? = some e → OkE N e) ∧ (∀ (j : Nat) a b, j + 1 < i → es[j]? = some a → es[j + 1]? = some b → Lex a b))
  (fun i => [(1, .pointer (some ⟨g1, 0, none⟩)), (3, .int .i64 i)])
  (fun i => [blk g1 24 #[.int .i64 N, .slice A es.length cap]]) (fun i => es.length - i) 0 ⟨Nat.zero_le _, fun _ _ h => absurd h (TS _), fun _ _ _ h => absurd h (TS _)⟩
  ⟨rfl, rfl, trivial⟩ (.cons 0 rfl .nil) ?_
 rintro i ⟨hi, hok, hup⟩
 refine DC.seq <| Zs ?_
 refine Zm ?_
 refine Zf Be ?_
 refine Zl Bu ?_
 refine Zn TU ?_
 refine Zc ?_
 refine Zx ?_
 refine Zd (fun c4 => ?_) fun c4 => ?_
 ·have hlt : i < es.length := by simpa using c4
  obtain ⟨e, he⟩ : ∃ e, es[i]? = some e := ⟨_, Tz hlt⟩
  obtain ⟨ad, rfl, hU, hV⟩ := hr.pair he
  refine DC.skip <| Fin.then <| DC.seq <| DC.block <| Zs ?_
  refine Zf Be ?_
  refine Zl Bu ?_
  refine Zm ?_
  refine Zo (AM (ad' := ad.add (i * 2)) rfl rfl rfl TU AY (by omega) (by omega) rfl) ?_
  refine Zu (Ay (vs := [_, _]) rfl rfl B3 AY rfl (Cv hU hV (by simp))) ?_
  refine Zw (AD rfl CE rfl) fun g4 => ?_
  refine Zy (At (cs' := #[_, _]) rfl rfl rfl AY rfl (TB rfl) rfl) ?_
  refine Zx <| DC.seq <| Zs ?_
  refine Zf Bb ?_
  refine Zl AJ ?_
  refine Zc ?_
  refine Zm ?_
  refine Seq.split 35 rfl (fun k7_3 => ?_) (fun k7_3 => ?_)
  ·refine Zk ?_
   iterate 4 refine Zk ?_
   refine Zt ?_
   refine Zm ?_
   iterate 5 refine Zk ?_
   refine Zt ?_
   refine Zx ?_
   refine AI rfl ?_
   refine Zs ?_
   refine Za ?_
   refine Zx <| DC.ret <| Aa <| Ae <| Aa <| Aa <| Ae <| Aa ?_
   refine Fin.weak (E' := [(2, _)]) ⟨rfl, trivial⟩ .nil ?_
   refine Zh ?_
   exact ⟨rfl, false, rfl, by simp; intro h; have := (h.ok i e he).lo; simp at k7_3; omega⟩
  refine Zf Bb ?_
  refine Zl AJ ?_
  refine Zf Bk ?_
  refine Zl AJ ?_
  refine Zo (Cc rfl rfl rfl) ?_
  refine Zg ?_
  refine Zm ?_
  refine Seq.split 42 rfl (fun k7_10 => ?_) (fun k7_10 => ?_)
  ·refine Zk ?_
   iterate 4 refine Zk ?_
   refine Zt ?_
   refine Zx ?_
   refine AI rfl ?_
   refine Zs ?_
   refine Za ?_
   refine Zx <| DC.ret <| Aa <| Ae <| Aa <| Aa <| Ae <| Aa ?_
   refine Fin.weak (E' := [(2, _)]) ⟨rfl, trivial⟩ .nil ?_
   refine Zh ?_
   exact ⟨rfl, false, rfl, by simp; intro h; have := (h.ok i e he).lt; simp at k7_10; omega⟩
  refine Zf Bk ?_
  refine Zl AJ ?_
  refine Zf BI ?_
  refine Zl AJ ?_
  refine Zo (Cc rfl rfl rfl) ?_
  refine Zg ?_
  refine Zx ?_
  refine Zd (fun c7 => ?_) fun c7 => ?_
  ·refine Zs ?_
   refine Za ?_
   refine Zx <| DC.ret <| Aa <| Ae <| Aa <| Aa <| Ae <| Aa ?_
   refine Fin.weak (E' := [(2, _)]) ⟨rfl, trivial⟩ .nil ?_
   refine Zh ?_
   exact ⟨rfl, false, rfl, by simp; intro h; have := (h.ok i e he).hi; simp at c7; omega⟩
  refine DC.skip <| Fin.then <| Zs ?_
  refine Zm ?_
  refine Zo (Bs rfl rfl rfl) ?_
  refine Zx ?_
  refine Zd (fun c9 => ?_) fun c9 => ?_
  ·have hpos : 0 < i := by simpa using c9
   obtain ⟨d, hd⟩ : ∃ d, es[i - 1]? = some d := ⟨_, Tz (by omega)⟩
   obtain ⟨ad', h', hU', hV'⟩ := hr.pair hd
   cases h'
   have h2a : 0 ≤ e.1 := by simpa using k7_3
   have h2b : e.1 < e.2 := by simpa using k7_10
   have h2c : e.2 < N := by simpa using c7
   have hii : ((i : Int) - 1).toNat = i - 1 := by omega
   have fin : Lex d e → (∀ (j : Nat) x, j < i + 1 → es[j]? = some x → OkE N x) ∧ (∀ (j : Nat) a b, j + 1 < i + 1 → es[j]? = some a → es[j + 1]? = some b → Lex a b) := by
    intro hlex
    constructor
    ·intro j x hj hx
     rcases TE.1 hj with hj | rfl
     ·exact hok j x hj hx
     rw [he] at hx; cases hx; exact ⟨h2a, h2b, h2c⟩
    intro j a b hj ha hb
    rcases TE.1 hj with hj | hj
    ·exact hup j a b hj ha hb
    obtain rfl : j = i - 1 := by omega
    rw [hd] at ha; cases ha
    rw [show i - 1 + 1 = i by omega, he] at hb; cases hb
    exact hlex
   have bad : ¬ Lex d e → ¬ Vld N es := fun hn h => hn (h.up (i - 1) d e hd (by rw [show i - 1 + 1 = i by omega]; exact he))
   refine DC.seq ?_
   refine AF (cl := [.q, .v, .q, .q, .q, .v, .v, .r, .q]) (A := [0, 1, 0, 4, 15, 31, 0, 127, 255]) (order := [0, 1, 2, 3, 4, 5, 6, 7, 8]) [] mixed (by kernel_rfl) (fun w hw => hw.pick .nil) ?_
   refine Yf Be ?_
   refine Yl Bu ?_
   refine Ym ?_
   refine Yo rfl (Bv rfl rfl rfl (by omega)) ?_
   refine Yo rfl (AM (ad' := ad.add ((i - 1) * 2)) rfl rfl rfl TU AY (by omega) (by omega) (by rw [hii])) ?_
   refine Am rfl rfl rfl rfl (Ay (vs := [_, _]) rfl rfl B3 AY rfl (Cv hU' hV' (by simp))) ?_
   refine Am rfl rfl rfl rfl (Ay (vs := [_, _]) rfl rfl B3 AY rfl (Ak rfl)) ?_
   refine Flow.rel0 rfl rfl rfl rfl (Ar en35 rfl rfl rfl (fun w' hw => JC d.1 d.2 e.1 e.2 w')) ?_
   rintro _ ⟨lb, rfl, hlb⟩
   refine Yo rfl (AR rfl rfl) ?_
   refine Flow.end rfl ?_
   simp only [zq, zr]
   refine Fin.then <| Zs ?_
   refine Zm ?_
   refine Zo (Bd rfl rfl) ?_
   refine Zx ?_
   refine Zd (fun c11 => ?_) fun c11 => ?_
   ·refine Zs ?_
    refine Za ?_
    refine Zx <| DC.ret <| Ae <| Aa <| Aa <| Ae <| Aa ?_
    refine Fin.weak (E' := [(2, _)]) ⟨rfl, trivial⟩ .nil ?_
    refine Zh ?_
    exact ⟨rfl, false, rfl, by simp; exact bad (fun h => by rw [hlb.2 h] at c11; simp at c11)⟩
   refine DC.skip <| Fin.inBlock <| Fin.then <| DC.region ?_
   refine Zm ?_
   refine Zp ?_
   refine Za ?_
   refine Seq.nil ?_
   obtain ⟨f1, f2⟩ := fin (hlb.1 (by simpa using c11))
   refine Ag (i + 1) (by omega) ⟨by omega, f1, f2⟩ ⟨rfl, rfl, trivial⟩ (.cons 1 rfl .nil)
  refine DC.skip <| Fin.inBlock <| Fin.then <| DC.region ?_
  refine Zm ?_
  refine Zp ?_
  refine Za ?_
  refine Seq.nil ?_
  have h0 : i = 0 := by simp at c9; omega
  subst h0
  have h2a : 0 ≤ e.1 := by simpa using k7_3
  have h2b : e.1 < e.2 := by simpa using k7_10
  have h2c : e.2 < N := by simpa using c7
  refine Ag 1 (by omega) ⟨by omega, ?_, ?_⟩ ⟨rfl, rfl, trivial⟩ (.cons 1 rfl .nil)
  ·intro j x hj hx
   obtain rfl : j = 0 := by omega
   rw [he] at hx; cases hx; exact ⟨h2a, h2b, h2c⟩
  intro j a b hj; omega
 refine DC.exit <| Ad <| Ad <| Ah <| Fin.then <| Zs ?_
 refine Za ?_
 refine Zx <| DC.ret ?_
 refine Fin.weak (E' := [(2, _)]) ⟨rfl, trivial⟩ .nil ?_
 refine Zh ?_
 have hie : i = es.length := by simp at c4; omega
 subst hie
 refine ⟨rfl, true, rfl, by simp; exact ⟨by simpa using k1_3, by simpa using k1_8, by simp at c1; omega, fun j e hj => hok j e (TA.1 hj).1 hj, fun j a b ha hb => hup j a b (TA.1 hb).1 ha hb⟩⟩
theorem JD {N : Int} {es : List Pr} {va : Value} {e : Pr} {w : World} (hg : PrV w va es) (hV : Vld N es) :
  Calls Tryz.prog 33 #[.agg #[.int .i64 N, va], .agg #[.int .i64 e.1, .int .i64 e.2]] w (Ret w [] fun v L => L = [] ∧ ∃ r, v = .int .i64 r ∧ (0 ≤ r ↔ e ∈ es)) := by
 have hg0 := hg
 have hfew := hV.few
 obtain ⟨A, cap, rfl, hr, hlc, hcm, hl⟩ := hg
 refine Ao (args := [_, _]) (L := []) Tryz.func33 rfl Tryz.ntmps33 rfl (Own.start _ _) ?_
 refine Zs ?_
 refine Zw (Ba rfl rfl rfl) fun g2 => ?_
 refine Zw (Ba rfl rfl rfl) fun g3 => ?_
 refine Za ?_
 refine Zx <| Zs ?_
 refine Zu (Ay (vs := [_, _]) rfl rfl Bn Bg rfl (Ak rfl)) ?_
 refine Seq.rel0 rfl rfl (Ar MC rfl rfl rfl (fun w' hw => B2 (hg0.keep0 hw))) ?_
 rintro _ ⟨b, rfl, hb⟩
 refine Za ?_
 refine Zx <| DC.seq <| Zs ?_
 refine Zm ?_
 refine Zo (Bd rfl rfl) ?_
 refine Zx ?_
 refine Zd (fun c2 => ?_) fun c2 => ?_
 ·refine Zs ?_
  refine Za ?_
  refine Zx <| DC.ret <| Aa ?_
  refine Fin.weak (E' := [(4, _)]) ⟨rfl, trivial⟩ .nil ?_
  refine Zh ?_
  rw [hb.2 hV] at c2
  simp at c2
 refine DC.skip <| Fin.then <| DC.seq <| Zs ?_
 refine Za ?_
 refine Zx <| DC.block ?_
 refine DC.loop (ι := Nat) (fun i => i ≤ es.length ∧ ∀ (j : Nat), j < i → es[j]? ≠ some e)
  (fun i => [(2, .pointer (some ⟨g2, 0, none⟩)), (3, .pointer (some ⟨g3, 0, none⟩)), (6, .int .i64 i)])
  (fun i => [blk g3 43 #[.int .i64 e.1, .int .i64 e.2], blk g2 24 #[.int .i64 N, .slice A es.length cap]]) (fun i => es.length - i) 0 ⟨Nat.zero_le _, fun _ h => absurd h (TS _)⟩
  ⟨rfl, rfl, rfl, trivial⟩ (Pick.all _) ?_
 rintro i ⟨hi, hno⟩
 refine DC.seq <| Zs ?_
 refine Zm ?_
 refine Zf Be ?_
 refine Zl Bu ?_
 refine Zn TU ?_
 refine Zc ?_
 refine Zx ?_
 refine Zd (fun c5 => ?_) fun c5 => ?_
 ·have hlt : i < es.length := by simpa using c5
  obtain ⟨x, hx⟩ : ∃ x, es[i]? = some x := ⟨_, Tz hlt⟩
  obtain ⟨ad, rfl, hU, hVe⟩ := hr.pair hx
  refine DC.skip <| Fin.then <| DC.seq <| DC.block <| DC.seq ?_
  refine AF (cl := [.q, .v, .q, .q, .q, .v, .q, .v, .q, .q, .q, .v, .q, .q, .q, .v, .q, .v, .q, .q]) (A := [0, 1, 0, 7, 15, 31, 0, 64, 255, 511, 1023, 2047, 1023, 8191, 16383, 32767, 1023, 66559, 262143, 524287]) (order := [0, 1, 2, 3, 4, 5, 6, 7, 8, 9, 10, 11, 12, 13, 14, 15, 16, 17, 18, 19]) [] mixed (by kernel_rfl) (fun w hw => hw.pick .nil) ?_
  refine Yf Be ?_
  refine Yl Bu ?_
  refine Ym ?_
  refine Yo rfl (AM (ad' := ad.add (i * 2)) rfl rfl rfl TU AY (by omega) (by omega) rfl) ?_
  refine Yo rfl (Bq (ad' := ad.add (i * 2)) rfl rfl Bb (by simp [Addr.add])) ?_
  refine Am rfl rfl rfl rfl (Ai rfl rfl AJ (Aw hU)) ?_
  refine Yf Bb ?_
  refine Yl AJ ?_
  refine Yo rfl (AN rfl rfl rfl) ?_
  refine Ym ?_
  refine Flow.split 27 rfl (fun k7_9 => ?_) (fun k7_9 => ?_)
  ·refine Yf Be ?_
   refine Yl Bu ?_
   refine Ym ?_
   refine Yo rfl (AM (ad' := ad.add (i * 2)) rfl rfl rfl TU AY (by omega) (by omega) rfl) ?_
   refine Yo rfl (Bq (ad' := ad.add (i * 2 + 1)) rfl rfl Bk (B6 _ _ _ (by decide))) ?_
   refine Am rfl rfl rfl rfl (Ai rfl rfl AJ (Aw hVe)) ?_
   refine Yf Bk ?_
   refine Yl AJ ?_
   refine Yo rfl (AN rfl rfl rfl) ?_
   refine Yo rfl (A7 rfl rfl rfl) ?_
   refine Flow.end rfl ?_
   simp only [zq, zr]
   refine Fin.then ?_
   refine Zd (fun c7 => ?_) fun c7 => ?_
   ·refine Zs ?_
    refine Zm ?_
    refine Za ?_
    refine Zx <| DC.ret <| Ae <| Aa <| Aa <| Ae <| Aa ?_
    refine Fin.weak (E' := [(4, _)]) ⟨rfl, trivial⟩ .nil ?_
    refine Zh ?_
    refine ⟨rfl, _, rfl, ?_⟩
    have : x = e := Prod.ext (by simpa using k7_9) (by simpa using c7)
    subst this
    exact ⟨fun _ => TD hx, fun _ => by omega⟩
   refine DC.skip <| Fin.inBlock <| Fin.then <| DC.region ?_
   refine Zm ?_
   refine Zp ?_
   refine Za ?_
   refine Seq.nil ?_
   refine Ag (i + 1) (by omega) ⟨by omega, fun j hj => ?_⟩ ⟨rfl, rfl, rfl, trivial⟩ (Pick.all _)
   rcases TE.1 hj with hj | rfl
   ·exact hno j hj
   rw [hx]
   intro h
   have := Option.some.inj h
   subst this
   first
   | (simp at c7; done)
   | (simp at k7_9; done)
  iterate 9 refine Yk ?_
  refine Yo rfl (AZ rfl rfl rfl) ?_
  refine Flow.end rfl ?_
  simp only [zq, zr]
  refine Fin.then ?_
  refine AT rfl ?_
  refine DC.skip <| Fin.inBlock <| Fin.then <| DC.region ?_
  refine Zm ?_
  refine Zp ?_
  refine Za ?_
  refine Seq.nil ?_
  refine Ag (i + 1) (by omega) ⟨by omega, fun j hj => ?_⟩ ⟨rfl, rfl, rfl, trivial⟩ (Pick.all _)
  rcases TE.1 hj with hj | rfl
  ·exact hno j hj
  rw [hx]
  intro h
  have := Option.some.inj h
  subst this
  first
  | (simp at c7; done)
  | (simp at k7_9; done)
 refine DC.exit <| Ad <| Ad <| Ah <| Fin.then <| Zs ?_
 refine Za ?_
 refine Zx <| DC.ret ?_
 refine Fin.weak (E' := [(4, _)]) ⟨rfl, trivial⟩ .nil ?_
 refine Zh ?_
 have hie : i = es.length := by simp at c5; omega
 subst hie
 refine ⟨rfl, _, rfl, ?_⟩
 refine ⟨fun h => by omega, fun h => ?_⟩
 obtain ⟨j, hj⟩ := TF.1 h
 exact absurd hj (hno j (TA.1 hj).1)
theorem JB {h : Int} {w : World} (h0 : 0 ≤ h) (h1 : h ≤ 1000000000) : Calls Tryz.prog 151 #[.int .i64 h] w (Ret w [] fun v L => L = [] ∧ v = .int .i64 (tw h)) := by
 refine Ao (args := [_]) (L := []) Tryz.func151 rfl Tryz.ntmps151 rfl (Own.start _ _) ?_
 refine Zs ?_
 refine Za ?_
 refine Zx <| DC.seq <| Zs ?_
 refine Zm ?_
 refine Zo (IW rfl rfl rfl (by omega) (by omega)) ?_
 refine Zo (AN rfl rfl rfl) ?_
 refine Zx ?_
 refine Zd (fun c1 => ?_) fun c1 => ?_
 ·refine Zs ?_
  refine Zm ?_
  refine Zp ?_
  refine Za ?_
  refine Zx <| DC.ret <| Aa ?_
  refine Zh ?_
  exact ⟨rfl, by unfold tw; rw [if_pos (by simpa using c1)]⟩
 refine DC.skip <| Fin.then <| Zs ?_
 refine Zm ?_
 refine Zo (Bv rfl rfl rfl (by omega)) ?_
 refine Za ?_
 refine Zx <| DC.ret ?_
 refine Zh ?_
 exact ⟨rfl, by unfold tw; rw [if_neg (by simpa using c1)]⟩
end Go.Fl

namespace Go.Fl
open Go
/-- A block of cells, whatever of it is marked. -/
def fro (g t : Nat) (cs : Array Value) : Chunk :=
 ⟨[g], fun w => ∃ fz, w.heap[g]? = some (.cells cs t fz), fun w w' h ⟨fz, hh⟩ => ⟨fz, (h g (TI ..)).trans hh⟩⟩
section
variable {P : Program} {w0 w : World} {K : List Nat} {n : Nat} {ds : List Deferred} {E : Env} {L F : List Chunk} {o : Oper} {x y z : Operand} {v u : Value}
theorem Lq {g i k : Nat} {cs : Array Value} {t : Nat} (hg : w.heap[g]? = some (.cells cs t (0, 0))) :
  ∃ fz, (w.freeze ⟨g, i, none⟩ k).heap[g]? = some (.cells cs t fz) ∧ (∀ j, j ≠ g → (w.freeze ⟨g, i, none⟩ k).heap[j]? = w.heap[j]?) ∧ (w.freeze ⟨g, i, none⟩ k).heap.size = w.heap.size ∧
   (w.freeze ⟨g, i, none⟩ k).os = w.os ∧ (w.freeze ⟨g, i, none⟩ k).tape = w.tape ∧ (w.freeze ⟨g, i, none⟩ k).output = w.output ∧ (w.freeze ⟨g, i, none⟩ k).drawn = w.drawn := by
 unfold World.freeze
 split
 ·exact ⟨_, hg, fun _ _ => rfl, rfl, rfl, rfl, rfl, rfl⟩
 refine ⟨_, by simp [Array.getElem?_modify, hg]; rfl, fun j hj => ?_, by simp, rfl, rfl, rfl, rfl⟩
 simp [Array.getElem?_modify, Ne.symm hj]
theorem RK {t e g len cap : Nat} {cs : Array Value} (ho : o.op = .convert t t x) (hx : ev n E x = some (.slice (some ⟨g, 0, none⟩) len cap)) (ht : P.underlying t = some (.slice e)) (he : P.underlying e = some (.int .u8))
  (hown : ∀ w, Own w0 K w L → Own w0 K w (blk g e cs :: F)) : Gen P w0 K n ds E L o (fun v M => v = .slice (some ⟨g, 0, none⟩) len cap ∧ M = fro g e cs :: F) := by
 intro a w ha hw
 have hO := hown w hw
 have hg : w.heap[g]? = some (.cells cs e (0, 0)) := hO.holds (blk g e cs) (TI ..)
 have hsh : w.shape? g = some (e, cs.size) := by unfold World.shape?; rw [hg]
 have hrun : (execOp a.eval o).run P w = .ok (.value (.slice (some ⟨g, 0, none⟩) len cap)) (w.freeze ⟨g, cs.size, none⟩ 1) := by
  simp [execOp, ho, ha.ev hx, convert, run_underlying ht, run_underlying he, markStringish, hsh]
 obtain ⟨fz, h1, h2, h3, h4, h5, h6, h7⟩ := Lq (i := cs.size) (k := 1) hg
 unfold RunsTo
 rw [hrun]
 refine ⟨_, ⟨rfl, rfl⟩, ?_⟩
 have h1' : Own w [g] (w.freeze ⟨g, cs.size, none⟩ 1) [fro g e cs] := by
  refine ⟨h4, h5, h6, ?_, by omega, fun k hk hn => h2 k (by simpa using hn), by simp [fro], fun q hq => ?_, fun q hq => ?_, fun c hc => ?_⟩
  ·rw [h7]; exact Lo.refl _
  ·simp [fro] at hq; subst hq; exact .inl (by simp)
  ·simp [fro] at hq; subst hq; rw [h3]; exact (TP.1 hg).1
  simp at hc; subst hc; exact ⟨fz, h1⟩
 exact Own.frame (Lc := [blk g e cs]) hO h1' (fun k hk => by simp [blk] at hk ⊢; exact hk)
theorem Q5 {g t cap : Nat} {bs : List UInt8} {sp : List Value} (hw : Own w0 K w L) (i : Nat) (hi : L[i]? = some (fro g t (byc bs ++ sp).toArray)) (h1 : bs.length ≤ cap) (h2 : cap ≤ 9223372036854775807) : ByV w (.slice (some ⟨g, 0, none⟩) bs.length cap) bs := by
 refine ⟨_, _, rfl, fun j u hj => ⟨_, rfl, ?_⟩, h1, h2⟩
 obtain ⟨fz, hg⟩ := hw.holds _ (TD hi)
 rw [AC, cell_of_row w g j _ t fz hg]
 have hjl := (TA.1 hj).1
 simpa [TK hjl] using hj
end
end Go.Fl

namespace Go.Fl
open Go
def pk (L : List Chunk) : Chunk :=
 ⟨idsOf L, fun w => ∀ c, c ∈ L → c.holds w, fun w w' h hh c hc => c.loc w w' (fun g hg => h g (Gq.2 ⟨c, hc, hg⟩)) (hh c hc)⟩
section
variable {w0 w : World} {K : List Nat} {L F : List Chunk}
theorem Gi (h : Own w0 K w (L ++ F)) : Own w0 K w (pk L :: F) := by
 have e : idsOf (pk L :: F) = idsOf (L ++ F) := by simp [pk]
 refine ⟨h.os, h.tape, h.output, h.drawn, h.size, h.old, by rw [e]; exact h.nodup, fun g hg => h.fresh g (by rwa [e] at hg), fun g hg => h.lt g (by rwa [e] at hg), fun c hc => ?_⟩
 rcases List.mem_cons.1 hc with rfl | hc
 ·exact fun d hd => h.holds d (List.mem_append_left _ hd)
 exact h.holds c (List.mem_append_right _ hc)
theorem Pb (h : Own w0 K w (pk L :: F)) : Own w0 K w (L ++ F) := by
 have e : idsOf (pk L :: F) = idsOf (L ++ F) := by simp [pk]
 refine ⟨h.os, h.tape, h.output, h.drawn, h.size, h.old, by rw [← e]; exact h.nodup, fun g hg => h.fresh g (by rwa [← e] at hg), fun g hg => h.lt g (by rwa [← e] at hg), fun c hc => ?_⟩
 rcases List.mem_append.1 hc with hc | hc
 ·exact h.holds (pk L) (TI ..) c hc
 exact h.holds c (TM _ hc)
theorem D2 {M : List Chunk} (i : Nat) (hi : M[i]? = some (pk L)) (h : Own w0 K w M) : Own w0 K w (L ++ M.eraseIdx i) := Pb (h.perm (AO hi).symm)
end
end Go.Fl

namespace Go.Fl
open Go Go.Proofs
/-- A piece of memory that holds a certificate's lists. -/
def CertC (c : Chunk) (v u : Value) (ls : List (List Int)) (cs : List Pr) : Prop := ∀ (w0 : World) (K : List Nat) (w : World) (L : List Chunk) (i : Nat), Own w0 K w L → L[i]? = some c → LsV w v ls ∧ PrV w u cs
open Classical
theorem OD {P : Program} {ops : Array Oper} {w0 : World} {K : List Nat} {n : Nat} {ds : List Deferred} {E : Env} {L : List Chunk} {Q : Exit → Act → World → Prop} {l : List Oper} {φ : Prop} (hf : ∀ w, Own w0 K w L → φ) (h : φ → Seq P ops w0 K n ds Q l E L) : Seq P ops w0 K n ds Q l E L := fun a w ha hw => h (hf w hw) a w ha hw
noncomputable def certA (bs : List UInt8) : Option (Bool × List (List Int) × List Pr) := if 33554432 < bs.length then none else certP bs
theorem GL {vb : Value} {bs : List UInt8} {w : World} (hB : ByV w vb bs) :
  Calls Tryz.prog 22 #[vb] w (Ret w [] fun r M => ∃ pl Av lv cv Au lu cu x e ck ls cs, r = .tuple #[.agg #[.bool pl, .slice Av lv cv, .slice Au lu cu], .int .i64 x, .int .i64 e] ∧ M = [ck] ∧
   (e = 0 → certA bs = some (pl, ls, cs) ∧ CertC ck (.slice Av lv cv) (.slice Au lu cu) ls cs ∧ ls.length ≤ 4194304 ∧ ∀ l, l ∈ ls → l.length ≤ bs.length) ∧ (e ≠ 0 → certA bs = none)) := by
 obtain ⟨A, cap, hvb, hR, hb1, hb2⟩ := id hB
 subst hvb
 refine Ao (K := []) (args := [_]) (L := []) Tryz.func22 rfl Tryz.ntmps22 rfl (Own.start _ _) ?_
 refine Zs ?_
 refine Zw (AD rfl NK rfl) fun g2 => ?_
 iterate 2 refine Za ?_
 refine Zx <| DC.seq <| Zs ?_
 refine Zm ?_
 refine Zn TV ?_
 refine Zo (Bs rfl rfl rfl) ?_
 refine Zx ?_
 refine Zd (fun c1 => ?_) fun c1 => ?_
 ·have hlen : 33554432 < bs.length := by have := of_decide_eq_true c1; omega
  refine Zs ?_
  refine Zo (AA (cs := #[_, _, _]) rfl rfl Qe rfl rfl) ?_
  refine Zy (At (cs' := #[_, _, _]) rfl rfl rfl BV rfl (TB rfl) rfl) ?_
  iterate 2 refine Za ?_
  refine Zx <| DC.ret <| Aa ?_
  refine BP (cs := #[_, _, _]) (.inl rfl) rfl rfl rfl rfl CD BV ?_
  exact ⟨[pk []], fun w hw => Gi (by simpa using hw.sub (TH _)), false, _, _, _, _, _, _, 33554432, 10, _, [], [], rfl, rfl, by simp, fun _ => by rw [certA, if_pos hlen]⟩
 have hlen : ¬ 33554432 < bs.length := by have := of_decide_eq_false c1; omega
 refine DC.skip <| Fin.then <| Zs ?_
 refine Zm ?_
 refine Zo (AA (cs := #[_, _, _]) rfl rfl bs91 rfl rfl) ?_
 refine Zw (Ba rfl rfl rfl) fun g14 => ?_
 refine Za ?_
 refine Zx <| DC.seq ?_
 refine DC.own (M := [rdC g14 (.slice A bs.length cap) 0 (-1), blk g2 27 #[.bool false, .slice none 0 0, .slice none 0 0]]) (fun w hw => hw) ?_
 refine DC.region ?_
 refine Zm ?_
 refine Seq.gen rfl rfl (Bh en40 rfl rfl rfl (Lc := [rdC g14 (.slice A bs.length cap) 0 (-1)]) (F := [blk g2 27 #[.bool false, .slice none 0 0, .slice none 0 0]]) (.refl _) (fun k hk => hk) (fun w hw => LL (hw.sub (L' := [rdC g14 (.slice A bs.length cap) 0 (-1)]) (.cons_cons _ (TH _))).self (hB.keep0 hw) (ByO.step (K := []) (L := [rdC g14 (.slice A bs.length cap) 0 (-1)]) hB (fun _ _ _ _ _ => by simp) (hw.sub (.cons_cons _ (TH _)))) (by omega))) ?_
 rintro _ _ ⟨_, ⟨pl, v, u, ok, j, bad', rs, cs, rfl, rfl, ⟨hrl, hcl, hrw⟩, hy, hn⟩, rfl⟩
 refine Seq.own (M := [pk (slc v 44 1 (rowsV rs) :: slc u 43 2 (prs cs) :: rowsC 3 rs), blk g14 91 #[.slice A bs.length cap, .int .i64 (j : Nat), .int .i64 bad'], blk g2 27 #[.bool false, .slice none 0 0, .slice none 0 0]]) (fun w hw => Gi (hw.perm (List.perm_middle (l₁ := slc v 44 1 (rowsV rs) :: slc u 43 2 (prs cs) :: rowsC 3 rs)))) ?_
 refine OD (φ := (∃ A l c, v = .slice A l c) ∧ ∃ A l c, u = .slice A l c) (fun w hw => ?_) ?_
 ·have h1 := D2 0 rfl hw
  obtain ⟨_, _, _, e, _⟩ := BW h1
  have h2 := h1.sub (TG _ _)
  obtain ⟨_, _, _, e', _⟩ := BW h2
  exact ⟨⟨_, _, _, e⟩, ⟨_, _, _, e'⟩⟩
 rintro ⟨⟨Av, lv, cv, rfl⟩, ⟨Au, lu, cu, rfl⟩⟩
 have hcc : CertC (pk (slc (.slice Av lv cv) 44 1 (rowsV rs) :: slc (.slice Au lu cu) 43 2 (prs cs) :: rowsC 3 rs)) (.slice Av lv cv) (.slice Au lu cu) (rs.map Prod.snd) cs := by
  intro w0 K w L i hw hi
  have h1 := D2 i hi hw
  refine ⟨?_, CX h1 1 rfl (by omega)⟩
  have h2 := h1.sub (List.sublist_append_left _ _)
  exact JO (F := [slc (.slice Au lu cu) 43 2 (prs cs)]) (by simpa using h2) (by omega) (fun p hp => by have := hrw p hp; omega)
 refine Zm ?_
 iterate 2 refine Ze ?_
 refine Zw (AD rfl NK rfl) fun g6 => ?_
 refine Zy (At (cs' := #[_, _, _]) rfl rfl rfl BV rfl (TB rfl) rfl) ?_
 refine Za ?_
 refine Zx <| DC.seq <| Zs ?_
 refine Zm ?_
 refine Zo (Bd rfl rfl) ?_
 refine Zx ?_
 refine Zd (fun c5 => ?_) fun c5 => ?_
 ·refine DC.seq ?_
  refine AF (cl := [.q, .q, .q, .q, .q, .g, .q, .q]) (A := [0, 0, 2, 6, 14, 1, 63, 127]) (order := [0, 1, 2, 3, 4, 5, 6, 7]) ([blk g14 91 #[.slice A bs.length cap, .int .i64 (j : Nat), .int .i64 bad']]) mixed (by kernel_rfl) (fun w hw => hw.pick (.cons 2 rfl .nil)) ?_
  refine Yo rfl (AA (cs := #[_, _, _]) rfl rfl Qe rfl rfl) ?_
  refine Ym ?_
  refine Yo rfl (AH rfl rfl) ?_
  refine Yf My ?_
  refine Flow.old rfl rfl rfl (Ai rfl rfl AJ (BJ rfl)) ?_
  refine AS rfl rfl rfl rfl (At (cs' := #[_, _, _]) rfl rfl rfl BV rfl (TB rfl) rfl) (fun w hw => hw.pick (.cons 2 rfl .nil)) ?_
  refine Yo rfl (AR rfl rfl) ?_
  refine Yo rfl (AR rfl rfl) ?_
  refine Flow.end rfl ?_
  simp only [zq, zr]
  refine Fin.then <| DC.ret <| Aa ?_
  refine BP (cs := #[_, _, _]) (.inl rfl) rfl rfl rfl rfl CD BV ?_
  exact ⟨[pk []], fun w hw => Gi (by simpa using hw.sub (TH _)), false, _, _, _, _, _, _, _, 170, _, [], [], rfl, rfl, by simp, fun _ => by rw [certA, if_neg hlen]; exact hn (by simpa using c5)⟩
 refine DC.skip <| Fin.then <| Zs ?_
 refine Zu (Ay (vs := [_, _, _]) rfl rfl CD BV rfl (Ak rfl)) ?_
 refine Zy (At (cs' := #[_, _, _]) rfl rfl rfl BV rfl (TB rfl) rfl) ?_
 iterate 2 refine Za ?_
 refine Zx <| DC.ret ?_
 refine BP (cs := #[_, _, _]) (.inl rfl) rfl rfl rfl rfl CD BV ?_
 refine ⟨[_], fun w hw => hw.pick (.cons 1 rfl .nil), pl, _, _, _, _, _, _, 0, 0, _, rs.map Prod.snd, cs, rfl, rfl, fun _ => ⟨by rw [certA, if_neg hlen]; exact hy (by simpa using c5), hcc, by rw [List.length_map]; exact hrl, fun l hl => ?_⟩, by simp⟩
 obtain ⟨p, hp, rfl⟩ := List.mem_map.1 hl
 exact hrw p hp
end Go.Fl

namespace Go.Fl
open Go Go.Proofs
open Classical
theorem QI {bs : List UInt8} {i k : Nat} {n : Int} (e : numP bs i = some (n, k)) : i ≤ k := by
 unfold numP at e
 split at e
 ·cases e
 cases e; omega
theorem HP {bs : List UInt8} : ∀ {f i : Nat} {acc l : List Int} {j : Nat}, listGo bs f i acc = some (l, j) → l.length + i ≤ acc.length + j
 | 0, _, _, _, _, h => by simp [listGo] at h
 | f + 1, i, acc, l, j, h => by
  unfold listGo at h
  cases e : numP bs i with
  | none => rw [e] at h; cases h
  | some q =>
   obtain ⟨n, k⟩ := q
   have hk := QI e
   rw [e] at h
   dsimp only at h
   split at h
   ·cases h
   split at h
   ·have := HP h
    simp at this; omega
   split at h
   ·cases h; simp; omega
   cases h
theorem Oa {bs : List UInt8} {i j : Nat} {l : List Int} (h : listP bs i = some (l, j)) : l.length + i ≤ j := by
 unfold listP at h
 split at h
 ·cases h; simp
 have := HP h
 simp at this; omega
def sumL (ls : List (List Int)) : Nat := (ls.map List.length).sum
theorem IN {bs : List UInt8} : ∀ {k i : Nat} {ls ls' : List (List Int)} {cs cs' : List Pr} {j : Nat}, tailP true bs k i ls cs = some (ls', cs', j) → sumL ls' + i ≤ sumL ls + j
 | 0, _, _, _, _, _, _, h => by simp [tailP] at h; obtain ⟨rfl, _, rfl⟩ := h; exact Nat.le_refl _
 | k + 1, i, ls, ls', cs, cs', j, h => by
  unfold tailP at h
  rw [if_pos rfl] at h
  cases e : listP bs i with
  | none => rw [e] at h; cases h
  | some q =>
   obtain ⟨l, m⟩ := q
   have h1 := Oa e
   rw [e] at h
   have h2 := IN h
   simp [sumL] at h2 ⊢; omega
theorem IO {bs : List UInt8} : ∀ {k i : Nat} {ls ls' : List (List Int)} {cs cs' : List Pr} {j : Nat}, tailP false bs k i ls cs = some (ls', cs', j) → ls' = ls
 | 0, _, _, _, _, _, _, h => by simp [tailP] at h; exact h.1.symm
 | k + 1, i, ls, ls', cs, cs', j, h => by
  unfold tailP at h
  rw [if_neg (by decide)] at h
  cases e : edgeP bs i cs with
  | none => rw [e] at h; cases h
  | some q =>
   obtain ⟨l, m⟩ := q
   rw [e] at h
   exact IO h
theorem KV {pl pl' : Bool} {bs : List UInt8} {ls : List (List Int)} {cs : List Pr} (h : midP pl bs = some (pl', ls, cs)) : sumL ls ≤ bs.length := by
 unfold midP at h
 split at h
 ·cases e : numP bs 2 with
  | none => rw [e] at h; cases h
  | some q =>
   obtain ⟨k, j⟩ := q
   rw [e] at h
   dsimp only at h
   generalize (if pl = true then (1048576 : Int) else 4194304) = B at h
   split at h
   ·cases h
   split at h
   ·cases e2 : tailP pl bs k.toNat (j + 1) [] [] with
    | none => rw [e2] at h; cases h
    | some q =>
     obtain ⟨ls', cs', m⟩ := q
     rw [e2] at h
     dsimp only at h
     split at h
     ·cases h
      cases pl with
      | true => have := IN e2; simp [sumL] at this ⊢; omega
      | false => rw [IO e2]; simp [sumL]
     cases h
   cases h
 cases h
theorem Gx {bs : List UInt8} {pl : Bool} {ls : List (List Int)} {cs : List Pr} (h : certA bs = some (pl, ls, cs)) : sumL ls ≤ 33554432 := by
 unfold certA at h
 split at h
 ·cases h
 have : sumL ls ≤ bs.length := by
  unfold certP at h
  split at h
  ·exact KV h
  split at h
  ·exact KV h
  cases h
 omega
theorem Kz {ls : List (List Int)} : ∀ {l : List Int}, l ∈ ls → l.length ≤ sumL ls := by
 induction ls with
 | nil => intro l h; cases h
 | cons a r ih =>
  intro l h
  rcases List.mem_cons.1 h with rfl | h
  ·simp [sumL]
  have := ih h
  simp [sumL] at this ⊢; omega
theorem Oc {ls : List (List Int)} (hI : ∀ l, l ∈ ls → ∀ a, a ∈ l → I64 a) : (ls.map lineB).flatten.length ≤ 21 * sumL ls + ls.length := by
 induction ls with
 | nil => simp [sumL]
 | cons a r ih =>
  have h1 := ih fun l hl => hI l (by simp [hl])
  have h2 := CS (ns := a) (hI a (by simp))
  simp [sumL] at h1 ⊢; omega
theorem Rz {ls : List (List Int)} (hs : sumL ls ≤ 33554432) (hok : ListsOk ls) : (ls.map lineB).flatten.length ≤ 1048576 * 44040193 := by
 have h1 := hok.1
 have h2 := Oc (ls := ls) fun l hl a ha => by have := hok.fits hl ha; unfold I64; unfold Fits at this; omega
 omega
end Go.Fl

namespace Go.Fl
open Classical
def itr (f : Nat → Nat) : Nat → Nat → Nat
 | 0, h => h
 | k + 1, h => f (itr f k h)
/-- The least of its cycle. -/
def Lead (f : Nat → Nat) (h : Nat) : Prop := ∀ k, h ≤ itr f k h
noncomputable def leads (n : Nat) (f : Nat → Nat) : Nat := (List.range n).countP fun h => decide (Lead f h)
structure Perm (n : Nat) (f : Nat → Nat) : Prop where
 lt : ∀ i, i < n → f i < n
 inj : ∀ i j, i < n → j < n → f i = f j → i = j
def invs : List Nat → Nat
 | [] => 0
 | x :: r => r.countP (fun y => decide (y < x)) + invs r
def cross (a b : List Nat) : Nat := (a.map fun x => b.countP fun y => decide (y < x)).sum
theorem CJ {n : Nat} {f : Nat → Nat} (h : Perm n f) {i : Nat} (hi : i < n) : ∀ k, itr f k i < n
 | 0 => hi
 | k + 1 => h.lt _ (CJ h hi k)
theorem EI (a b : List Nat) : invs (a ++ b) = invs a + invs b + cross a b := by
 induction a with
 | nil => simp [invs, cross]
 | cons x r ih =>
  simp only [List.cons_append, invs, ih, List.countP_append, cross, List.map_cons, List.sum_cons]
  omega
theorem Ed (a b : List Nat) (x : Nat) : cross a (x :: b) = cross a [x] + cross a b := by
 induction a with
 | nil => rfl
 | cons y r ih =>
  simp only [cross, List.map_cons, List.sum_cons] at ih ⊢
  rw [ih]
  simp only [List.countP_cons, List.countP_nil]
  omega
theorem Ka (a b c : List Nat) : cross a (b ++ c) = cross a b + cross a c := by
 induction b with
 | nil =>
  have : cross a [] = 0 := by
   unfold cross
   induction a with
   | nil => rfl
   | cons y r ih => simpa using ih
  rw [this]; simp
 | cons x r ih => rw [List.cons_append, Ed, ih, Ed a r]; omega
theorem H7 {a : List Nat} {n : Nat} (h : ∀ x, x ∈ a → x < n) : cross a [n] = 0 := by
 induction a with
 | nil => rfl
 | cons y r ih =>
  have h1 := h y (by simp)
  have h2 := ih fun x hx => h x (by simp [hx])
  simp only [cross, List.map_cons, List.sum_cons, List.countP_cons, List.countP_nil] at h2 ⊢
  rw [h2, if_neg (by simp; omega)]
theorem LE {l : List Nat} {q : Nat} (h : q ∉ l) : l.countP (fun y => decide (y < q)) + l.countP (fun y => decide (q < y)) = l.length := by
 induction l with
 | nil => rfl
 | cons y r ih =>
  have h1 : y ≠ q := fun e => h (by simp [e])
  have := ih fun hm => h (by simp [hm])
  simp only [List.countP_cons, List.length_cons]
  by_cases c : y < q
  ·have : ¬ q < y := by omega
   simp [c, this]; omega
  have : q < y := by omega
  simp [c, this]; omega
theorem MG {l : List Nat} {n : Nat} (h : ∀ x, x ∈ l → x < n) : l.countP (fun y => decide (y < n)) = l.length := by
 rw [List.countP_eq_length]; intro a ha; simp [h a ha]
theorem Ox (b : List Nat) (q : Nat) : cross b [q] = b.countP fun y => decide (q < y) := by
 induction b with
 | nil => rfl
 | cons x r ih =>
  simp only [cross, List.map_cons, List.sum_cons] at ih ⊢
  rw [ih]
  simp only [List.countP_cons, List.countP_nil]
  by_cases c : q < x <;> simp [c]; omega
/-- The greatest number is taken out of its cycle. -/
def cutF (n p q : Nat) (f : Nat → Nat) : Nat → Nat := fun i => if i = p then q else f i
theorem LD {n p : Nat} {f : Nat → Nat} (h : Perm (n + 1) f) (hp : p < n) (hfp : f p = n) : Perm n (cutF n p (f n) f) := by
 have hq : f n < n := by
  have := h.lt n (by omega)
  have : f n ≠ n := fun e => by have := h.inj p n (by omega) (by omega) (by rw [hfp, e]); omega
  omega
 refine ⟨fun i hi => ?_, fun i j hi hj he => ?_⟩
 ·unfold cutF
  split
  ·exact hq
  have := h.lt i (by omega)
  have : f i ≠ n := fun e => by have := h.inj i p (by omega) (by omega) (by rw [e, hfp]); omega
  omega
 unfold cutF at he
 split at he <;> split at he
 ·omega
 ·have := h.inj n j (by omega) (by omega) he; omega
 ·have := h.inj i n (by omega) (by omega) he; omega
 exact h.inj i j (by omega) (by omega) he
theorem Q2 {n p : Nat} {f : Nat → Nat} (h : Perm (n + 1) f) (hp : p < n) (hfp : f p = n) {i : Nat} (hi : i < n) :
  (∀ k, ∃ j, itr (cutF n p (f n) f) k i = itr f j i) ∧ (∀ k, (itr f k i = n ∧ ∃ j, itr (cutF n p (f n) f) j i = p) ∨ ∃ j, itr f k i = itr (cutF n p (f n) f) j i) := by
 have hc := LD h hp hfp
 constructor
 ·intro k
  induction k with
  | zero => exact ⟨0, rfl⟩
  | succ k ih =>
   obtain ⟨j, hj⟩ := ih
   by_cases c : itr (cutF n p (f n) f) k i = p
   ·refine ⟨j + 2, ?_⟩
    show cutF n p (f n) f (itr (cutF n p (f n) f) k i) = f (f (itr f j i))
    rw [← hj, c]
    unfold cutF
    rw [if_pos rfl, hfp]
   refine ⟨j + 1, ?_⟩
   show cutF n p (f n) f (itr (cutF n p (f n) f) k i) = f (itr f j i)
   rw [← hj]
   unfold cutF at c ⊢
   rw [if_neg c]
 intro k
 induction k with
 | zero => exact .inr ⟨0, rfl⟩
 | succ k ih =>
  rcases ih with ⟨h1, j, hj⟩ | ⟨j, hj⟩
  ·right
   refine ⟨j + 1, ?_⟩
   show f (itr f k i) = cutF n p (f n) f (itr (cutF n p (f n) f) j i)
   rw [h1, hj]
   unfold cutF
   rw [if_pos rfl]
  have h4 : itr (cutF n p (f n) f) j i < n := CJ hc hi j
  by_cases c : f (itr f k i) = n
  ·left
   have h3 : itr f k i = p := h.inj _ _ (by rw [hj]; omega) (by omega) (by rw [c, hfp])
   exact ⟨c, j, by rw [← hj, h3]⟩
  right
  refine ⟨j + 1, ?_⟩
  show f (itr f k i) = cutF n p (f n) f (itr (cutF n p (f n) f) j i)
  rw [← hj]
  unfold cutF
  rw [if_neg]
  intro e
  apply c; rw [e, hfp]
theorem PY {n p : Nat} {f : Nat → Nat} (h : Perm (n + 1) f) (hp : p < n) (hfp : f p = n) {i : Nat} (hi : i < n) : Lead (cutF n p (f n) f) i ↔ Lead f i := by
 obtain ⟨h1, h2⟩ := Q2 h hp hfp hi
 constructor
 ·intro hl k
  rcases h2 k with ⟨e, _⟩ | ⟨j, hj⟩
  ·omega
  rw [hj]; exact hl j
 intro hl k
 obtain ⟨j, hj⟩ := h1 k
 rw [hj]; exact hl j
theorem K8 {n : Nat} {f g : Nat → Nat} (h : ∀ i, i < n → (Lead f i ↔ Lead g i)) : leads n f = leads n g := by
 unfold leads
 apply List.countP_congr
 intro x hx
 have := h x (TN.1 hx)
 simp [this]
theorem HQ (n : Nat) (f : Nat → Nat) : leads (n + 1) f = leads n f + if Lead f n then 1 else 0 := by
 unfold leads
 rw [List.range_succ, List.countP_append]
 simp
theorem Mk {n : Nat} {f : Nat → Nat} {l : List Nat} (h : Perm (n + 1) f) (hl : ∀ i, i ∈ l → i < n + 1) (p : Nat) (hp : p < n + 1) (hfp : f p = n) (hn : p ∉ l) : ∀ x, x ∈ l.map f → x < n := by
 intro x hx
 obtain ⟨i, hi, rfl⟩ := List.mem_map.1 hx
 have h1 := h.lt i (hl i hi)
 have : f i ≠ n := fun e => hn (by have := h.inj i p (hl i hi) hp (by rw [e, hfp]); rw [← this]; exact hi)
 omega
theorem Do : ∀ {a b : List Nat}, a.Nodup → (∀ x, x ∈ a → x ∈ b) → a.length ≤ b.length
 | [], b, _, _ => by simp
 | x :: r, b, hn, hs => by
  rw [List.nodup_cons] at hn
  have hx : x ∈ b := hs x (by simp)
  have ih := Do (a := r) (b := b.erase x) hn.2 (fun y hy => (List.mem_erase_of_ne (fun e => hn.1 (by rw [← e]; exact hy))).2 (hs y (by simp [hy])))
  have := List.length_erase_of_mem hx
  have : 0 < b.length := List.length_pos_of_mem hx
  simp; omega
theorem NU {n : Nat} {f : Nat → Nat} (h : Perm n f) {y : Nat} (hy : y < n) : ∃ x, x < n ∧ f x = y := by
 apply Classical.byContradiction
 intro hn
 have hnd : ((List.range n).map f).Nodup := by
  unfold List.Nodup
  rw [List.pairwise_map]
  refine List.nodup_range.imp_of_mem fun {a b} ha hb hab he => hab (h.inj a b (TN.1 ha) (TN.1 hb) he)
 have hsub : ∀ x, x ∈ (List.range n).map f → x ∈ (List.range n).filter fun z => decide (z ≠ y) := by
  intro x hx
  obtain ⟨i, hi, rfl⟩ := List.mem_map.1 hx
  have hi' := TN.1 hi
  exact List.mem_filter.2 ⟨TN.2 (h.lt i hi'), by simp; exact fun e => hn ⟨i, hi', e⟩⟩
 have h1 := Do hnd hsub
 have h2 : ((List.range n).filter fun z => decide (z ≠ y)).length < n := by
  have h3 : ((List.range n).filter fun z => decide (z ≠ y)).length + ((List.range n).filter fun z => decide (z = y)).length = n := by
   have : ∀ l : List Nat, (l.filter fun z => decide (z ≠ y)).length + (l.filter fun z => decide (z = y)).length = l.length := by
    intro l
    induction l with
    | nil => rfl
    | cons a r ih =>
     by_cases c : a = y
     ·simp [c] at ih ⊢; omega
     simp [c] at ih ⊢; omega
   have h5 := this (List.range n)
   rw [List.length_range] at h5
   exact h5
  have h4 : 0 < ((List.range n).filter fun z => decide (z = y)).length := List.length_pos_of_mem (a := y) (List.mem_filter.2 ⟨TN.2 hy, by simp⟩)
  omega
 rw [List.length_map, List.length_range] at h1
 omega
theorem JS {f : Nat → Nat} {n : Nat} (h : f n = n) : ∀ k, itr f k n = n
 | 0 => rfl
 | k + 1 => by show f (itr f k n) = n; rw [JS h k, h]
theorem Perm.cut {n : Nat} {f : Nat → Nat} (h : Perm (n + 1) f) (hf : f n = n) : Perm n f :=
 ⟨fun i hi => by
  have h1 := h.lt i (by omega)
  have : f i ≠ n := fun e => by have := h.inj i n (by omega) (by omega) (by rw [e, hf]); omega
  omega, fun i j hi hj he => h.inj i j (by omega) (by omega) he⟩
/-- Inversions and cycles. -/
theorem D7 : ∀ (n : Nat) (f : Nat → Nat), Perm n f → (invs ((List.range n).map f) + leads n f) % 2 = n % 2
 | 0, f, _ => rfl
 | n + 1, f, h => by
  obtain ⟨p, hp, hfp⟩ := NU h (y := n) (by omega)
  by_cases hpn : p = n
  ·subst hpn
   have ih := D7 p f (h.cut hfp)
   have e1 : (List.range (p + 1)).map f = (List.range p).map f ++ [p] := by rw [List.range_succ, List.map_append]; simp [hfp]
   have hlp : Lead f p := fun k => by rw [JS hfp k]; exact Nat.le_refl _
   rw [e1, EI, HQ, if_pos hlp]
   have e2 : cross ((List.range p).map f) [p] = 0 := H7 (Mk h (fun i hi => by have := TN.1 hi; omega) p (by omega) hfp (by simp))
   have e3 : invs [p] = 0 := rfl
   omega
  have hpl : p < n := by omega
  have hc := LD h hpl hfp
  have ih := D7 n _ hc
  have hl : leads n (cutF n p (f n) f) = leads n f := K8 fun i hi => PY h hpl hfp hi
  have hnl : ¬ Lead f n := fun hl => by
   have := hl 1
   have h2 : f n < n + 1 := h.lt n (by omega)
   have : f n ≠ n := fun e => hpn (h.inj p n hp (by omega) (by rw [hfp, e]))
   have h3 : n ≤ f n := hl 1
   omega
  rw [HQ, if_neg hnl]
  rw [hl] at ih
  obtain ⟨m, hm⟩ : ∃ m, n = p + 1 + m := ⟨n - (p + 1), by omega⟩
  generalize hA : (List.range p).map f = A
  generalize hB : (List.range' (p + 1) m).map f = B
  have hr1 : (List.range n) = List.range p ++ p :: List.range' (p + 1) m := by
   rw [List.range_eq_range', List.range_eq_range', hm, show p + 1 + m = p + (1 + m) by omega, ← List.range'_append_1, Nat.zero_add, Nat.add_comm 1 m, List.range'_succ]
  have e1 : (List.range (n + 1)).map f = A ++ n :: (B ++ [f n]) := by
   rw [List.range_succ, hr1, List.map_append, List.map_append, List.map_cons, hA, hB, hfp]; simp
  have e2 : (List.range n).map (cutF n p (f n) f) = A ++ f n :: B := by
   rw [hr1, List.map_append, List.map_cons]
   have c1 : (List.range p).map (cutF n p (f n) f) = A := by
    rw [← hA]; apply List.map_congr_left; intro i hi; have := TN.1 hi; unfold cutF; rw [if_neg (by omega)]
   have c2 : (List.range' (p + 1) m).map (cutF n p (f n) f) = B := by
    rw [← hB]; apply List.map_congr_left; intro i hi; have := List.mem_range'_1.1 hi; unfold cutF; rw [if_neg (by omega)]
   rw [c1, c2]
   congr 2
   unfold cutF; rw [if_pos rfl]
  rw [e2] at ih
  rw [e1]
  have bA : ∀ x, x ∈ A → x < n := by rw [← hA]; exact Mk h (fun i hi => by have := TN.1 hi; omega) p hp hfp (by simp)
  have bB : ∀ x, x ∈ B → x < n := by rw [← hB]; exact Mk h (fun i hi => by have := List.mem_range'_1.1 hi; omega) p hp hfp (fun hm3 => by have := List.mem_range'_1.1 hm3; omega)
  have hq : f n < n := by
   have := h.lt n (by omega)
   have : f n ≠ n := fun e => hpn (h.inj p n hp (by omega) (by rw [hfp, e]))
   omega
  have hqB : f n ∉ B := by
   rw [← hB]
   intro hm2
   obtain ⟨i, hi, he⟩ := List.mem_map.1 hm2
   have hi2 := List.mem_range'_1.1 hi
   have := h.inj i n (by omega) (by omega) he
   omega
  have k1 := LE hqB
  have k2 : (B ++ [f n]).countP (fun y => decide (y < n)) = (B ++ [f n]).length := MG (by
   intro x hx
   rcases List.mem_append.1 hx with hx | hx
   ·exact bB x hx
   simp at hx; omega)
  have k3 : cross A (n :: (B ++ [f n])) = cross A B + cross A [f n] := by rw [Ed, Ka, H7 bA]; omega
  have k4 : cross A (f n :: B) = cross A [f n] + cross A B := Ed _ _ _
  have k5 : invs (B ++ [f n]) = invs B + B.countP (fun y => decide (f n < y)) := by
   rw [EI, Ox]
   have : invs [f n] = 0 := rfl
   omega
  rw [EI] at ih ⊢
  simp only [invs] at ih ⊢
  rw [k2, k3, k5]
  rw [k4] at ih
  simp only [List.length_append, List.length_singleton]
  omega
/-! ### neighbours change places in pairs -/
def swp (T : Nat → Bool) : Nat → List Nat → List Nat
 | i, x :: y :: r => if T i then y :: x :: swp T (i + 1) r else x :: y :: swp T (i + 1) r
 | _, l => l
theorem Kx (T : Nat → Bool) : ∀ (i : Nat) (l : List Nat), (swp T i l).Perm l
 | i, x :: y :: r => by
  unfold swp
  have ih := Kx T (i + 1) r
  split
  ·exact (List.Perm.swap x y _).trans ((ih.cons y).cons x)
  exact (ih.cons y).cons x
 | _, [] => .refl _
 | _, [_] => .refl _
theorem Ld (T : Nat → Bool) : ∀ (m i : Nat) (l : List Nat), l.Nodup → l.length = 2 * m → (invs (swp T i l) + (List.range' i m).countP T) % 2 = invs l % 2
 | 0, i, l, _, hl => by
  have : l = [] := TO (by omega)
  subst this; rfl
 | m + 1, i, l, hn, hl => by
  match l, hn, hl with
  | [], _, hl => simp at hl
  | [_], _, hl => simp at hl; omega
  | x :: y :: r, hn, hl =>
   rw [List.nodup_cons, List.nodup_cons] at hn
   have ih := Ld T m (i + 1) r hn.2.2 (by simp at hl; omega)
   have hp := Kx T (i + 1) r
   have hxy : x ≠ y := fun e => hn.1 (by simp [e])
   have c1 : ∀ z : Nat, (swp T (i + 1) r).countP (fun w => decide (w < z)) = r.countP (fun w => decide (w < z)) := fun z => hp.countP_eq _
   unfold swp
   rw [List.range'_succ, List.countP_cons]
   split
   ·rename_i ht
    simp only [invs, List.countP_cons, c1, ht, if_true]
    by_cases c : x < y
    ·have : ¬ y < x := by omega
     simp [c, this]; omega
    have : y < x := by omega
    simp [c, this]; omega
   rename_i ht
   simp only [invs, List.countP_cons, c1, ht]
   simp; omega
def twn (h : Nat) : Nat := if h % 2 = 0 then h + 1 else h - 1
theorem MY (T : Nat → Bool) (s : Nat → Nat) : ∀ (m i : Nat), swp T i ((List.range' (2 * i) (2 * m)).map s) = (List.range' (2 * i) (2 * m)).map fun h => s (if T (h / 2) then twn h else h)
 | 0, i => rfl
 | m + 1, i => by
  have ih := MY T s m (i + 1)
  rw [show 2 * (m + 1) = 2 * m + 1 + 1 by omega, List.range'_succ, List.range'_succ]
  simp only [List.map_cons]
  unfold swp
  rw [show 2 * i + 1 + 1 = 2 * (i + 1) by omega, ih]
  have e1 : 2 * i / 2 = i := by omega
  have e2 : (2 * i + 1) / 2 = i := by omega
  have e3 : twn (2 * i) = 2 * i + 1 := by unfold twn; rw [if_pos (by omega)]
  have e4 : twn (2 * i + 1) = 2 * i := by unfold twn; rw [if_neg (by omega)]; omega
  rw [e1, e2, e3, e4]
  split <;> rfl
theorem OK (m : Nat) : Perm (2 * m) twn :=
 ⟨fun i hi => by unfold twn; split <;> omega, fun i j hi hj he => by unfold twn at he; split at he <;> split at he <;> omega⟩
theorem Perm.nodup {n : Nat} {f : Nat → Nat} (h : Perm n f) : ((List.range n).map f).Nodup := by
 unfold List.Nodup
 rw [List.pairwise_map]
 exact List.nodup_range.imp_of_mem fun {a b} ha hb hab he => hab (h.inj a b (TN.1 ha) (TN.1 hb) he)
/-- A permutation on a part, the rest at rest. -/
def onP (c : Nat → Bool) (f : Nat → Nat) : Nat → Nat := fun h => if c h then f h else h
theorem HK {n : Nat} {f : Nat → Nat} {c : Nat → Bool} (h : Perm n f) (hc : ∀ i, i < n → c (f i) = c i) : Perm n (onP c f) := by
 refine ⟨fun i hi => ?_, fun i j hi hj he => ?_⟩
 ·unfold onP; split
  ·exact h.lt i hi
  exact hi
 unfold onP at he
 split at he <;> split at he
 ·exact h.inj i j hi hj he
 ·rename_i a b; have := hc i hi; rw [he] at this; rw [this] at b; exact absurd a b
 ·rename_i a b; have := hc j hj; rw [← he] at this; rw [this] at a; exact absurd b a
 exact he
theorem JM {n : Nat} {f : Nat → Nat} {c : Nat → Bool} (h : Perm n f) (hc : ∀ i, i < n → c (f i) = c i) {i : Nat} (hi : i < n) (hci : c i = true) : ∀ k, itr (onP c f) k i = itr f k i ∧ c (itr f k i) = true
 | 0 => ⟨rfl, hci⟩
 | k + 1 => by
  obtain ⟨h1, h2⟩ := JM h hc hi hci k
  have h3 : onP c f (itr f k i) = f (itr f k i) := by unfold onP; rw [if_pos h2]
  exact ⟨by show onP c f (itr (onP c f) k i) = _; rw [h1, h3]; rfl, by show c (f (itr f k i)) = true; rw [hc _ (CJ h hi k)]; exact h2⟩
theorem I1 {n : Nat} {f : Nat → Nat} {c : Nat → Bool} (h : Perm n f) (hc : ∀ i, i < n → c (f i) = c i) :
  leads n (onP c f) = (List.range n).countP (fun i => c i && decide (Lead f i)) + (List.range n).countP fun i => !c i := by
 unfold leads
 have key : ∀ l : List Nat, (∀ i, i ∈ l → i < n) → l.countP (fun i => decide (Lead (onP c f) i)) = l.countP (fun i => c i && decide (Lead f i)) + l.countP fun i => !c i := by
  intro l hl
  induction l with
  | nil => rfl
  | cons i r ih =>
   have ih' := ih fun j hj => hl j (by simp [hj])
   have hi := hl i (by simp)
   simp only [List.countP_cons, ih']
   by_cases hci : c i = true
   ·have e : Lead (onP c f) i ↔ Lead f i := by
     unfold Lead
     constructor
     ·intro hh k; rw [← (JM h hc hi hci k).1]; exact hh k
     intro hh k; rw [(JM h hc hi hci k).1]; exact hh k
    simp [hci, e]; omega
   have e : Lead (onP c f) i := fun k => by
    have : onP c f i = i := by unfold onP; rw [if_neg hci]
    rw [JS this k]; exact Nat.le_refl _
   simp [hci, e]; omega
 exact key _ fun i hi => TN.1 hi
/-- Of a part that both leave in place: its faces, its vertices and its edges are even together. -/
theorem Lv {m : Nat} {s : Nat → Nat} {c : Nat → Bool} (hs : Perm (2 * m) s) (h1 : ∀ i, i < 2 * m → c (s i) = c i) (h2 : ∀ i, i < 2 * m → c (twn i) = c i) :
  ((List.range (2 * m)).countP (fun i => c i && decide (Lead (fun h => s (twn h)) i)) + (List.range (2 * m)).countP (fun i => c i && decide (Lead s i)) + (List.range m).countP fun e => c (2 * e)) % 2 = 0 := by
 have ht := OK m
 have hf : Perm (2 * m) fun h => s (twn h) := ⟨fun i hi => hs.lt _ (ht.lt i hi), fun i j hi hj he => ht.inj i j hi hj (hs.inj _ _ (ht.lt i hi) (ht.lt j hj) he)⟩
 have hfc : ∀ i, i < 2 * m → c (s (twn i)) = c i := fun i hi => by rw [h1 _ (ht.lt i hi), h2 i hi]
 have a1 := D7 _ _ (HK hs h1)
 have a2 := D7 _ _ (HK hf hfc)
 rw [I1 hs h1] at a1
 rw [I1 hf hfc] at a2
 have e1 : (List.range (2 * m)).map (onP c fun h => s (twn h)) = swp (fun e => c (2 * e)) 0 ((List.range (2 * m)).map (onP c s)) := by
  have := MY (fun e => c (2 * e)) (onP c s) m 0
  rw [Nat.mul_zero, ← List.range_eq_range'] at this
  rw [this]
  apply List.map_congr_left
  intro h hh
  have hlt := TN.1 hh
  have h3 : c (2 * (h / 2)) = c h := by
   by_cases hp : h % 2 = 0
   ·rw [show 2 * (h / 2) = h by omega]
   have e : twn h = 2 * (h / 2) := by unfold twn; rw [if_neg hp]; omega
   rw [← e]; exact h2 h hlt
  rw [h3]
  unfold onP
  by_cases hc : c h = true
  ·rw [if_pos hc, if_pos hc, if_pos (by rw [h2 h hlt]; exact hc)]
  rw [if_neg hc, if_neg hc, if_neg hc]
 have a3 := Ld (fun e => c (2 * e)) m 0 _ (HK hs h1).nodup (by simp)
 rw [← e1, ← List.range_eq_range'] at a3
 omega
end Go.Fl

namespace Go.Fl
open Classical
theorem D6 (f : Nat → Nat) (x : Nat) : ∀ a b, itr f (a + b) x = itr f a (itr f b x)
 | 0, b => by rw [Nat.zero_add]; rfl
 | a + 1, b => by rw [Nat.succ_add]; show f _ = f _; rw [D6 f x a b]
theorem Np {n : Nat} {f : Nat → Nat} (h : Perm n f) {x y : Nat} (hx : x < n) (hy : y < n) : ∀ k, itr f k x = itr f k y → x = y
 | 0, e => e
 | k + 1, e => Np h hx hy k (h.inj _ _ (CJ h hx k) (CJ h hy k) e)
theorem QP {n : Nat} {f : Nat → Nat} (h : Perm n f) {x : Nat} (hx : x < n) : ∃ k, 0 < k ∧ itr f k x = x := by
 apply Classical.byContradiction
 intro hno
 have hnd : ((List.range (n + 1)).map fun k => itr f k x).Nodup := by
  unfold List.Nodup
  rw [List.pairwise_map, List.pairwise_iff_getElem]
  intro i j hi hj hij e
  simp only [List.getElem_range] at e
  have e2 : itr f i (itr f (j - i) x) = itr f i x := by rw [← D6, show i + (j - i) = j by omega]; exact e.symm
  exact hno ⟨j - i, by omega, Np h (CJ h hx _) hx i e2⟩
 have := Do (b := List.range n) hnd (fun y hy => by
  obtain ⟨k, _, rfl⟩ := List.mem_map.1 hy
  exact TN.2 (CJ h hx k))
 rw [List.length_map, List.length_range, List.length_range] at this
 omega
theorem HT {n : Nat} {f : Nat → Nat} (h : Perm n f) {x y : Nat} {q : Nat} (hx : x < n) (e : itr f q x = y) : ∃ r, itr f r y = x := by
 obtain ⟨k, hk, hr⟩ := QP h hx
 have hm : ∀ m, itr f (k * m) x = x := by
  intro m
  induction m with
  | zero => rfl
  | succ m ih => rw [Nat.mul_succ, D6, hr, ih]
 have hq : q ≤ k * q := Nat.le_mul_of_pos_left _ hk
 refine ⟨k * q - q, ?_⟩
 rw [← e, ← D6, show k * q - q + q = k * q by omega, hm]
/-- Seen by the walks that began below h. -/
def SeenB (f : Nat → Nat) (h x : Nat) : Prop := ∃ j q, j < h ∧ itr f q j = x
theorem EQ {n : Nat} {f : Nat → Nat} (h : Perm n f) {x : Nat} (hx : x < n) : SeenB f x x ↔ ¬ Lead f x := by
 constructor
 ·rintro ⟨j, q, hj, e⟩ hl
  obtain ⟨r, hr⟩ := HT h (by omega) e
  have := hl r
  omega
 intro hl
 simp only [Lead, Classical.not_forall, Nat.not_le] at hl
 obtain ⟨k, hk⟩ := hl
 obtain ⟨r, hr⟩ := HT h hx rfl (q := k)
 exact ⟨_, r, hk, hr⟩
/-- A walk round that comes upon what is seen. -/
theorem IL {n : Nat} {f : Nat → Nat} (h : Perm n f) {x t : Nat} (hx : x < n) (ht : 0 < t) (hns : ¬ SeenB f x x) (hs : SeenB f x (itr f t x) ∨ ∃ i, i < t ∧ itr f i x = itr f t x) :
  ∀ q, ∃ i, i < t ∧ itr f i x = itr f q x := by
 have hcl : ∃ i, i < t ∧ itr f i x = itr f t x := by
  rcases hs with ⟨j, q, hj, e⟩ | hs
  ·exfalso
   obtain ⟨r, hr⟩ := HT h hx rfl (q := t)
   exact hns ⟨j, r + q, hj, by rw [D6, e, hr]⟩
  exact hs
 intro q
 induction q with
 | zero => exact ⟨0, ht, rfl⟩
 | succ q ih =>
  obtain ⟨i, hi, e⟩ := ih
  have e2 : itr f (i + 1) x = itr f (q + 1) x := by show f _ = f _; rw [e]
  by_cases h1 : i + 1 < t
  ·exact ⟨i + 1, h1, e2⟩
  obtain ⟨i', hi', e'⟩ := hcl
  exact ⟨i', hi', by rw [e', show t = i + 1 by omega, e2]⟩
theorem E6 {f : Nat → Nat} {x t : Nat} (hall : ∀ q, ∃ i, i < t ∧ itr f i x = itr f q x) (y : Nat) : SeenB f (x + 1) y ↔ SeenB f x y ∨ ∃ i, i < t ∧ itr f i x = y := by
 constructor
 ·rintro ⟨j, q, hj, e⟩
  rcases TE.1 hj with hj | rfl
  ·exact .inl ⟨j, q, hj, e⟩
  obtain ⟨i, hi, e2⟩ := hall q
  exact .inr ⟨i, hi, e2.trans e⟩
 rintro (⟨j, q, hj, e⟩ | ⟨i, hi, e⟩)
 ·exact ⟨j, q, by omega, e⟩
 exact ⟨x, i, by omega, e⟩
theorem E5 {f : Nat → Nat} {x : Nat} (hs : SeenB f x x) (y : Nat) : SeenB f (x + 1) y ↔ SeenB f x y := by
 constructor
 ·rintro ⟨j, q, hj, e⟩
  rcases TE.1 hj with hj | rfl
  ·exact ⟨j, q, hj, e⟩
  obtain ⟨j', q', hj', e'⟩ := hs
  exact ⟨j', q + q', hj', by rw [D6, e', e]⟩
 rintro ⟨j, q, hj, e⟩; exact ⟨j, q, by omega, e⟩
end Go.Fl

namespace Go.Fl
open Go Go.Proofs
open Classical
/-- The step along a face. -/
def phi (f : Nat → Int) (h : Nat) : Nat := (f (twn h)).toNat
structure FaI where
 h : Nat
 g : Nat → Bool
 fs : RL
 v : Value
structure FaJ where
 t : Nat
 g : Nat → Bool
 v : Value
structure FaD (n : Nat) (f : Nat → Int) (j : FaI) : Prop where
 le : j.h ≤ n
 seen : ∀ x, x < n → (j.g x = true ↔ SeenB (phi f) j.h x)
 heads : j.fs.map (fun p => p.2.head?) = ((List.range j.h).filter fun x => decide (Lead (phi f) x)).map fun (x : Nat) => some (x : Int)
 short : ∀ p, p ∈ j.fs → p.2.length ≤ n
structure FaW (n : Nat) (f : Nat → Int) (h : Nat) (g0 : Nat → Bool) (j : FaJ) : Prop where
 nd : ((List.range j.t).map fun i => itr (phi f) i h).Nodup
 seen : ∀ x, x < n → (j.g x = true ↔ g0 x = true ∨ ∃ i, i < j.t ∧ itr (phi f) i h = x)
 new : 0 < j.t → ¬ (g0 h = true)
def faceL (f : Nat → Int) (h t : Nat) : List Int := (List.range t).map fun i => ((itr (phi f) i h : Nat) : Int)
theorem OF {N : Int} {es : List Pr} {rs : List (List Int)} {va v : Value} {w : World} (hg : PrV w va es) (hl : LsV w v rs)
  (hperm : ∀ f, RotL N es rs → NxOk rs rs.length f → Perm (es.length * 2) (phi f) ∧ ∀ h, h < es.length * 2 → 0 ≤ f h) :
  Calls Tryz.prog 152 #[.agg #[.int .i64 N, va], v] w (Ret w [] fun r M =>
   (RotL N es rs ∧ ∃ v fs f, r = .tuple #[v, .int .i64 0] ∧ NxOk rs rs.length f ∧ FaD (es.length * 2) f ⟨es.length * 2, fun _ => true, fs, v⟩ ∧ M = slc v 44 1 (rowsV fs) :: rowsC 3 fs) ∨
   (¬ RotL N es rs ∧ M = [] ∧ ∃ e, r = .tuple #[.slice none 0 0, .int .i64 e] ∧ e ≠ 0)) := by
 refine Ao (args := [_, _]) (L := []) Tryz.func152 rfl Tryz.ntmps152 rfl (Own.start _ _) ?_
 refine Zs ?_
 refine Zw (Ba (cs := #[.int .i64 N, va]) rfl rfl rfl) fun g2 => ?_
 iterate 2 refine Za ?_
 refine Zx <| Zs ?_
 refine Zu (Ay (vs := [_, _]) rfl rfl Bn Bg rfl (Ak rfl)) ?_
 refine Zm ?_
 refine Seq.rel rfl rfl (Ar ST rfl rfl rfl (fun w' hw => MR (hg.keep0 hw) (hl.keep0 hw))) ?_
 intro v16 L16 hC16
 obtain ⟨sv, e, rfl, hD16⟩ : ∃ sv e, v16 = .tuple #[sv, .int .i64 e] ∧ ((e = 0 ∧ RotL N es rs ∧ ∃ g f, sv = .slice (some ⟨g, 0, none⟩) (es.length * 2) (es.length * 2) ∧ NxOk rs rs.length f ∧ L16 = [blk g 3 (ints (tab (es.length * 2) f)).toArray]) ∨ (¬ RotL N es rs ∧ e ≠ 0)) := by
  rcases hC16 with ⟨hok, g, f, rfl, h1, h2⟩ | ⟨hno, _, e, rfl, hne⟩
  ·exact ⟨_, _, rfl, .inl ⟨rfl, hok, g, f, rfl, h1, h2⟩⟩
  exact ⟨_, _, rfl, .inr ⟨hno, hne⟩⟩
 clear hC16
 refine Zm ?_
 iterate 2 refine Ze ?_
 iterate 2 refine Za ?_
 refine Zx <| DC.seq <| Zs ?_
 refine Zm ?_
 refine Zo (BK rfl rfl rfl) ?_
 refine Zx ?_
 refine Zd (fun c2 => ?_) fun c2 => ?_
 ·refine Zs ?_
  refine Zm ?_
  iterate 2 refine Za ?_
  refine Zx <| DC.ret <| Aa ?_
  have hne : e ≠ 0 := by simpa using c2
  have hno := (hD16.resolve_left (fun h => hne h.1)).1
  refine Fin.weak (E' := [(4, _), (5, _)]) ⟨rfl, rfl, trivial⟩ .nil ?_
  refine AL (.inl rfl) rfl rfl rfl ?_
  exact .inr ⟨hno, rfl, e, rfl, hne⟩
 refine DC.skip <| Fin.then <| DC.seq ?_
 have he0 : e = 0 := by simpa using c2
 obtain ⟨_, hok, gn, f, rfl, hnx, rfl⟩ := hD16.resolve_right (fun h => h.2 he0)
 simp only [zs]
 obtain ⟨hP, hf0⟩ := hperm f hok hnx
 have hfew := hok.1.few
 obtain ⟨n, hn⟩ : ∃ n, n = es.length * 2 := ⟨_, rfl⟩
 rw [← hn] at hP hf0 ⊢
 have hn1 : n ≤ 8388608 := by omega
 refine DC.region ?_
 refine Zm ?_
 refine Zn TT ?_
 refine Zw (Ca (k := n) rfl rfl rfl TZ Ft R2 Rv rfl (by omega) (by omega) (DK _)) fun g24 => ?_
 refine Za ?_
 refine Zx <| Zs ?_
 refine Za ?_
 refine Zx <| DC.seq <| Zs ?_
 refine Zm ?_
 refine Zn TT ?_
 refine Zm ?_
 refine Zx <| DC.block ?_
 refine DC.own (fun w hw => AX (t := 44) (m := 1) hw) ?_
 refine DC.loop (ι := FaI) (fun j => FaD n f j)
  (fun j => [(6, .slice (some ⟨gn, 0, none⟩) n n), (8, .slice (some ⟨g24, 0, none⟩) n n), (9, j.v), (25, .slice (some ⟨gn, 0, none⟩) n n), (26, .int .i64 n), (27, .int .i64 j.h)])
  (fun j => slc j.v 44 1 (rowsV j.fs) :: blk g24 4 (bls n j.g).toArray :: blk gn 3 (ints (tab n f)).toArray :: rowsC 3 j.fs) (fun j => n - j.h) ⟨0, fun _ => false, [], .slice none 0 0⟩
  ⟨Nat.zero_le _, fun x _ => ⟨fun h => by simp at h, fun ⟨j, q, h, _⟩ => absurd h (TS _)⟩, by simp, by simp⟩ ⟨rfl, rfl, rfl, rfl, rfl, rfl, trivial⟩ (.cons 0 rfl (.cons 0 rfl (.cons 0 rfl .nil))) ?_
 rintro ⟨h, g, fs, v9⟩ hD
 have hDle := hD.le
 have hDse := hD.seen
 dsimp only at hDle hDse ⊢
 refine Zs ?_
 refine Zc ?_
 refine Zx <| DC.seq ?_
 refine Zd (fun c7 => ?_) fun c7 => ?_
 ·have hlt : h < n := by simpa using c7
  refine DC.skip <| Fin.then <| DC.seq <| DC.block <| Zs ?_
  refine Zm ?_
  refine Za ?_
  refine Zx <| Zs ?_
  refine Za ?_
  refine Zx <| DC.seq <| Zs ?_
  refine Zm ?_
  refine Za ?_
  refine Zx <| DC.block ?_
  refine DC.own (fun w hw => AX (t := 3) (m := 1) hw) ?_
  refine DC.loop (ι := FaJ) (fun j => FaW n f h g j)
   (fun j => [(6, .slice (some ⟨gn, 0, none⟩) n n), (8, .slice (some ⟨g24, 0, none⟩) n n), (9, v9), (11, j.v), (12, .int .i64 (itr (phi f) j.t h : Nat)), (25, .slice (some ⟨gn, 0, none⟩) n n), (26, .int .i64 n), (27, .int .i64 h)])
   (fun j => slc j.v 3 1 (ints (faceL f h j.t)) :: slc v9 44 1 (rowsV fs) :: blk g24 4 (bls n j.g).toArray :: blk gn 3 (ints (tab n f)).toArray :: rowsC 3 fs) (fun j => n - j.t) ⟨0, g, .slice none 0 0⟩
   ⟨by simp, fun x hx => by simp, fun h => absurd h (Nat.lt_irrefl _)⟩ ⟨rfl, rfl, rfl, rfl, rfl, rfl, rfl, rfl, trivial⟩ (Pick.all _) ?_
  rintro ⟨t, g', v11⟩ hW
  have hWse := hW.seen
  have hk := CJ hP hlt t
  dsimp only at hWse ⊢
  have htn : t ≤ n := by
   have := Do (b := List.range n) hW.nd (fun y hy => by obtain ⟨q, _, rfl⟩ := List.mem_map.1 hy; exact TN.2 (CJ hP hlt q))
   simpa using this
  obtain ⟨k, hkk⟩ : ∃ k, k = itr (phi f) t h := ⟨_, rfl⟩
  rw [← hkk] at hk ⊢
  have htw : twn k < n := by unfold twn; split <;> omega
  have hval : (ints (tab n f)).toArray[twn k]? = some (.int .i64 ((phi f k : Nat) : Int)) := by
   rw [Bt htw]; congr 2; exact (Int.toNat_of_nonneg (hf0 _ htw)).symm
  have exor : (if (k : Int) % 2 = 0 then (k : Int) + 1 else (k : Int) - 1) = ((twn k : Nat) : Int) := by unfold twn; split <;> split <;> omega
  refine DC.seq <| Zs ?_
  iterate 2 refine Zm ?_
  refine Zi TZ Ft ?_
  refine Zu (Ai rfl rfl II (Bi (Ei g' hk))) ?_
  refine Zo (Bd rfl rfl) ?_
  refine Zx ?_
  refine Zd (fun c11 => ?_) fun c11 => ?_
  ·have hgk : ¬ (g' k = true) := by simpa using c11
   have hkn : ¬ ∃ i, i < t ∧ itr (phi f) i h = k := fun h1 => hgk ((hWse k hk).2 (.inr h1))
   have hnd1 : ((List.range (t + 1)).map fun i => itr (phi f) i h).Nodup := by
    rw [List.range_succ, List.map_append, List.nodup_append]
    refine ⟨hW.nd, by simp, fun a ha b hb e => ?_⟩
    simp at hb; subst hb; subst e
    obtain ⟨q, hq, e⟩ := List.mem_map.1 ha
    exact hkn ⟨q, TN.1 hq, by rw [hkk]; exact e⟩
   have htn1 : t + 1 ≤ n := by
    have := Do (b := List.range n) hnd1 (fun y hy => by obtain ⟨q, _, rfl⟩ := List.mem_map.1 hy; exact TN.2 (CJ hP hlt q))
    simpa using this
   refine DC.skip <| Fin.then <| DC.seq <| DC.block <| Zs ?_
   iterate 2 refine Zm ?_
   refine Zi TZ Ft ?_
   refine Zy (AE (cs' := (bls n (updB g' k true)).toArray) rfl rfl rfl Ft rfl (by simp; omega) (Eh g' true)) ?_
   refine Zx <| DC.region ?_
   iterate 2 refine Zm ?_
   refine Zw (AP (cs := #[_]) rfl rfl TT AQ B0 rfl (by decide) (by decide) rfl rfl) fun g46 => ?_
   refine Seq.gen rfl rfl (AK rfl rfl rfl TT AQ DE B0 rfl (by decide) (by decide) (fun w hw => hw.sub (TG ..)) (.inl ⟨_, _, rfl, Ak rfl⟩) rfl (Bm [(k : Int)] []) (by simp [faceL]; omega)) ?_
   rintro v47 _ rfl
   refine Za ?_
   refine Seq.nil <| Fin.inBlock <| Fin.then <| DC.region ?_
   iterate 2 refine Zm ?_
   refine Zo (HE rfl rfl rfl (by omega)) ?_
   rw [exor]
   refine Zo (Aj (ad' := ⟨gn, twn k, none⟩) rfl rfl rfl TT AQ (by omega) (by omega) (by rw [AC]; rfl)) ?_
   refine Zu (Ai rfl rfl AJ (Bi hval)) ?_
   refine Za ?_
   refine Seq.nil ?_
   refine Ag ⟨t + 1, updB g' k true, v47⟩ (by dsimp only; omega) ⟨hnd1, ?_, ?_⟩ ⟨rfl, rfl, rfl, rfl, by rw [hkk]; rfl, rfl, rfl, rfl, trivial⟩ (.cons' 0 rfl (by dsimp only; unfold faceL; rw [List.range_succ, List.map_append, AU, hkk]; rfl) (Pick.all _))
   ·intro x hx
    dsimp only
    unfold updB
    split
    ·rename_i e; subst e
     simp only [true_iff]
     exact .inr ⟨t, by omega, hkk.symm⟩
    rename_i e
    rw [hWse x hx]
    constructor
    ·rintro (h1 | ⟨i, hi, h1⟩)
     ·exact .inl h1
     exact .inr ⟨i, by omega, h1⟩
    rintro (h1 | ⟨i, hi, h1⟩)
    ·exact .inl h1
    rcases TE.1 hi with hi | rfl
    ·exact .inr ⟨i, hi, h1⟩
    exact absurd (by rw [hkk, h1]) (Ne.symm e)
   intro _ hgh
   by_cases h0 : 0 < t
   ·exact hW.new h0 hgh
   have : k = h := by rw [hkk, show t = 0 by omega]; rfl
   exact hgk ((hWse k hk).2 (.inl (by rw [this]; exact hgh)))
  refine DC.exit <| Ad <| Ad <| Ah <| Fin.then <| DC.seq ?_
  have hgk : g' k = true := by simpa using c11
  refine DC.slcs (i := 0) rfl (by simp [faceL]; omega) ?_
  rintro A11 c11' rfl _
  have hfl : (faceL f h t).length = t := by simp [faceL]
  rw [hfl]
  refine DC.region ?_
  refine Zm ?_
  refine Zn TT ?_
  refine Zo (Bs rfl rfl rfl) ?_
  refine Zx ?_
  refine Zd (fun c15 => ?_) fun c15 => ?_
  ·have ht0 : 0 < t := by simp at c15; omega
   have hns : ¬ SeenB (phi f) h h := fun h1 => hW.new ht0 ((hDse h hlt).2 h1)
   have hlead : Lead (phi f) h := by
    apply Classical.byContradiction
    intro h1; exact hns ((EQ hP hlt).2 h1)
   have hall := IL hP hlt ht0 hns (by
    rw [← hkk]
    rcases (hWse k hk).1 hgk with h1 | h1
    ·exact .inl ((hDse k hk).1 h1)
    exact .inr h1)
   have hfslen : fs.length ≤ h := by
    have h1 := congrArg List.length hD.heads
    simp only [List.length_map] at h1
    have h2 := List.length_filter_le (fun x => decide (Lead (phi f) x)) (List.range h)
    simp at h2; omega
   refine DC.region ?_
   iterate 2 refine Zm ?_
   refine Zw (AP (cs := #[_]) rfl rfl TW BE Da rfl (by decide) (by decide) rfl rfl) fun g53 => ?_
   refine Seq.gen rfl rfl (AK rfl rfl rfl TW BE IH Da rfl (by decide) (by decide) (news := [.slice A11 t c11']) (k := 1) (fun w hw => (hw.sub (TG ..)).perm (.swap _ _ _)) (.inl ⟨_, _, rfl, Ak rfl⟩) rfl (fun u hu => by rw [List.mem_singleton.1 hu]; rfl) (by simp; omega)) ?_
   rintro v54 _ rfl
   refine Za ?_
   refine Seq.nil <| Fin.inBlock <| Fin.then <| DC.region ?_
   refine Zp ?_
   refine Zm ?_
   refine Seq.nil ?_
   refine Fin.own (M := slc v54 44 1 (rowsV (fs ++ [(.slice A11 t c11', faceL f h t)])) :: blk g24 4 (bls n g').toArray :: blk gn 3 (ints (tab n f)).toArray :: rowsC 3 (fs ++ [(.slice A11 t c11', faceL f h t)])) (fun w hw => ?_) ?_
   ·have e1 : rowsV (fs ++ [(.slice A11 t c11', faceL f h t)]) = rowsV fs ++ [.slice A11 t c11'] := by simp [rowsV]
    have e2 : rowsC 3 (fs ++ [(.slice A11 t c11', faceL f h t)]) = rowsC 3 fs ++ [slc (.slice A11 t c11') 3 1 (ints (faceL f h t))] := by simp [rowsC]
    rw [e1, e2]
    refine hw.perm ?_
    refine List.Perm.cons _ ?_
    have := TR (l₁ := blk g24 4 (bls n g').toArray :: blk gn 3 (ints (tab n f)).toArray :: rowsC 3 fs) (l₂ := [slc (.slice A11 t c11') 3 1 (ints (faceL f h t))])
    simpa using this
   refine Ag ⟨h + 1, g', fs ++ [(.slice A11 t c11', faceL f h t)], v54⟩ (by dsimp only; omega) ⟨by dsimp only; omega, ?_, ?_, ?_⟩ ⟨rfl, rfl, rfl, rfl, rfl, rfl, trivial⟩ (Pick.all _)
   ·intro x hx
    dsimp only
    rw [hWse x hx, hDse x hx, E6 hall]
   ·dsimp only
    rw [List.range_succ, List.filter_append, List.map_append, List.map_append, hD.heads]
    congr 1
    have : (faceL f h t).head? = some (h : Int) := by
     obtain ⟨t', rfl⟩ : ∃ t', t = t' + 1 := ⟨t - 1, by omega⟩
     simp [faceL, List.range_succ_eq_map, itr]
    simp [hlead, this]
   intro p hp
   rw [List.mem_append] at hp
   rcases hp with hp | hp
   ·exact hD.short p hp
   simp at hp; subst hp; dsimp only; omega
  refine DC.skip <| Fin.inBlock <| Fin.then <| DC.region ?_
  refine Zp ?_
  refine Zm ?_
  refine Seq.nil ?_
  have ht0 : t = 0 := by simp at c15; omega
  subst ht0
  have hkh : k = h := hkk
  subst hkh
  have hgx : ∀ x, x < n → (g' x = true ↔ g x = true) := fun x hx => by rw [hWse x hx]; simp
  have hs : SeenB (phi f) k k := (hDse k hlt).1 ((hgx k hlt).1 hgk)
  have hnl : ¬ Lead (phi f) k := (EQ hP hlt).1 hs
  refine Fin.own (fun w hw => hw.sub (TG ..)) ?_
  refine Ag ⟨k + 1, g', fs, v9⟩ (by dsimp only; omega) ⟨by dsimp only; omega, ?_, ?_, hD.short⟩ ⟨rfl, rfl, rfl, rfl, rfl, rfl, trivial⟩ (Pick.all _)
  ·intro x hx
   dsimp only
   rw [hgx x hx, hDse x hx, E5 hs]
  dsimp only
  rw [List.range_succ, List.filter_append, List.map_append, hD.heads]
  simp [hnl]
 refine DC.exit <| Ad <| Ad <| Ah <| Fin.then <| Zs ?_
 refine Zm ?_
 iterate 2 refine Za ?_
 refine Zx <| DC.ret ?_
 have hhn : h = n := by simp at c7; omega
 subst hhn
 refine Fin.own (M := slc v9 44 1 (rowsV fs) :: rowsC 3 fs) (fun w hw => hw.sub (.cons_cons _ (.cons _ (.cons _ (List.Sublist.refl _))))) ?_
 refine AL (.inl rfl) rfl rfl rfl ?_
 refine .inl ⟨hok, v9, fs, f, rfl, hnx, ?_, rfl⟩
 exact ⟨Nat.le_refl _, fun x hx => ⟨fun _ => ⟨x, 0, hx, rfl⟩, fun _ => rfl⟩, hD.heads, hD.short⟩
end Go.Fl

namespace Go.Fl
open Go Go.Proofs
theorem Gm : ∀ {a b : List Int}, a.Nodup → (∀ x, x ∈ a → x ∈ b) → a.length ≤ b.length
 | [], b, _, _ => by simp
 | x :: r, b, hn, hs => by
  rw [List.nodup_cons] at hn
  have hx : x ∈ b := hs x (by simp)
  have ih := Gm (a := r) (b := b.erase x) hn.2 (fun y hy => (List.mem_erase_of_ne (fun e => hn.1 (by rw [← e]; exact hy))).2 (hs y (by simp [hy])))
  have := List.length_erase_of_mem hx
  have : 0 < b.length := List.length_pos_of_mem hx
  simp; omega
theorem QJ {i j n : Nat} (hi : i < n) (hj : j < n) (h : (i + 1) % n = (j + 1) % n) : i = j := by
 have e : ∀ k, k < n → (k + 1) % n = if k + 1 = n then 0 else k + 1 := by
  intro k hk
  split
  ·rename_i h1; rw [h1, Nat.mod_self]
  exact Nat.mod_eq_of_lt (by omega)
 rw [e i hi, e j hj] at h
 split at h <;> split at h <;> omega
theorem Fe {N : Int} {es : List Pr} {rs : List (List Int)} (hok : RotL N es rs) {h : Nat} (hh : h < es.length * 2) :
  ∃ (v : Nat) (l : List Int) (i : Nat), rs[v]? = some l ∧ l[i]? = some (h : Int) ∧ fromV es h = v := by
 obtain ⟨hV, hN, hrow⟩ := hok
 obtain ⟨e, a, he, hcase⟩ := Cp (es := es) (h := (h : Int)) (by omega) (by omega)
 have ho := hV.ok e a he
 have h1 := ho.lo
 have h2 := ho.lt
 have h3 := ho.hi
 have hb : 0 ≤ fromV es h ∧ fromV es h < N := by
  rcases hcase with ⟨_, h4, _⟩ | ⟨_, h4, _⟩ <;> rw [h4] <;> omega
 obtain ⟨v, hv⟩ := TJ hb.1
 obtain ⟨l, hl⟩ : ∃ l, rs[v]? = some l := ⟨_, Tz (by omega)⟩
 obtain ⟨hfr, hnd, hcnt⟩ := hrow v l hl
 have hmem : (h : Int) ∈ l := by
  apply Classical.byContradiction
  intro hno
  have hle := Gm (a := (h : Int) :: l) (b := outs es v) (List.nodup_cons.2 ⟨hno, hnd⟩) (fun x hx => by
   rcases List.mem_cons.1 hx with rfl | hx
   ·exact (Bl hV).2 ⟨by omega, by omega, hv⟩
   exact (Bl hV).2 (hfr x hx))
  unfold cnt at hcnt
  simp only [List.length_cons] at hle
  omega
 obtain ⟨i, hi⟩ := TF.1 hmem
 exact ⟨v, l, i, hl, hi, hv⟩
theorem G1 {N : Int} {es : List Pr} {rs : List (List Int)} {f : Nat → Int} (hok : RotL N es rs) (hnx : NxOk rs rs.length f) : Perm (es.length * 2) (phi f) ∧ ∀ h, h < es.length * 2 → 0 ≤ f h := by
 have hrow := hok.2.2
 have next : ∀ {v : Nat} {l : List Int} {i h : Nat}, rs[v]? = some l → l[i]? = some (h : Int) → l[(i + 1) % l.length]? = some (f h) ∧ 0 ≤ f h ∧ f h < es.length * 2 ∧ fromV es (f h) = v := by
  intro v l i h hl hi
  have h1 := hnx v l i h (TA.1 hl).1 hl hi
  rw [TC] at h1
  obtain ⟨h2, h3, h4⟩ := (hrow v l hl).1 _ (TD h1)
  exact ⟨h1, h2, h3, h4⟩
 have hf0 : ∀ h, h < es.length * 2 → 0 ≤ f h := fun h hh => by
  obtain ⟨v, l, i, hl, hi, _⟩ := Fe hok hh
  exact (next hl hi).2.1
 have htw : ∀ h, h < es.length * 2 → twn h < es.length * 2 := fun h hh => by unfold twn; split <;> omega
 have htinj : ∀ a b, twn a = twn b → a = b := fun a b e => by unfold twn at e; split at e <;> split at e <;> omega
 refine ⟨⟨fun h hh => ?_, fun a b ha hb e => ?_⟩, hf0⟩
 ·obtain ⟨v, l, i, hl, hi, _⟩ := Fe hok (htw h hh)
  have := next hl hi
  unfold phi; omega
 obtain ⟨v, l, i, hl, hi, hv⟩ := Fe hok (htw a ha)
 obtain ⟨v', l', i', hl', hi', hv'⟩ := Fe hok (htw b hb)
 obtain ⟨n1, n2, n3, n4⟩ := next hl hi
 obtain ⟨m1, m2, m3, m4⟩ := next hl' hi'
 have hff : f (twn a) = f (twn b) := by unfold phi at e; omega
 have hvv : v = v' := by rw [hff] at n4; omega
 subst hvv
 rw [hl] at hl'; cases hl'
 have hnd := (hrow v l hl).2.1
 have hil := (TA.1 hi).1
 have hil' := (TA.1 hi').1
 have hmm := (List.getElem?_inj (Nat.mod_lt _ (by omega)) hnd).1 (n1.trans ((congrArg some hff).trans m1.symm))
 have hii := QJ hil hil' hmm
 subst hii
 rw [hi] at hi'
 have : twn a = twn b := by have := Option.some.inj hi'; omega
 exact htinj a b this
open Classical
def tl (a b c : Nat) : Value := .agg #[.int .i64 a, .int .i64 b, .int .i64 c]
/-- How many vertices below i bear the label x. -/
def cnV (f : Nat → Int) (i : Nat) (x : Int) : Nat := (List.range i).countP fun j => decide (f j = x)
/-- How many of the first i edges, of the first i faces. -/
def cnE (f : Nat → Int) (es : List Pr) (i : Nat) (x : Int) : Nat := (es.take i).countP fun e => decide (f e.1.toNat = x)
def headU (es : List Pr) (h : Int) : Nat := ((es[(h / 2).toNat]?).getD (0, 0)).1.toNat
def cnF (f : Nat → Int) (es : List Pr) (hs : List Int) (i : Nat) (x : Int) : Nat := (hs.take i).countP fun h => decide (f (headU es h) = x)
def Tal (m : List (Int × Value)) (a b c : Int → Nat) : Prop := (m.map (·.1)).Nodup ∧ ∀ x, lkM m x = if a x = 0 then none else some (tl (a x) (b x) (c x))
theorem Id (f : Nat → Int) (i : Nat) (x : Int) : cnV f (i + 1) x = cnV f i x + if f i = x then 1 else 0 := by
 unfold cnV
 rw [List.range_succ, List.countP_append]
 by_cases h : f i = x <;> simp [h]
theorem Jv {m : List (Int × Value)} {a b c : Int → Nat} (h : Tal m a b c) (x : Int) (h0 : a x = 0 → b x = 0 ∧ c x = 0) : (lkM m x).getD (tl 0 0 0) = tl (a x) (b x) (c x) := by
 rw [h.2 x]
 split
 ·rename_i e; rw [e, (h0 e).1, (h0 e).2]; rfl
 rfl
theorem Ju {m : List (Int × Value)} {a b c a' b' c' : Int → Nat} (h : Tal m a b c) (x : Int) (hx : a' x ≠ 0) (ho : ∀ y, y ≠ x → a' y = a y ∧ b' y = b y ∧ c' y = c y) : Tal (putM x (tl (a' x) (b' x) (c' x)) m) a' b' c' := by
 refine ⟨HA h.1, fun y => ?_⟩
 rw [D4]
 by_cases hy : y = x
 ·subst hy; rw [if_pos rfl, if_neg hx]
 obtain ⟨h1, h2, h3⟩ := ho y hy
 rw [if_neg hy, h.2 y, h1, h2, h3]
theorem LF {f : Nat → Int} {es : List Pr} {i : Nat} {e : Pr} (he : es[i]? = some e) (x : Int) : cnE f es (i + 1) x = cnE f es i x + if f e.1.toNat = x then 1 else 0 := by
 unfold cnE
 rw [List.take_add_one, he, List.countP_append]
 by_cases h : f e.1.toNat = x <;> simp [h]
theorem FW {f : Nat → Int} {n j : Nat} (hj : j < n) : cnV f n (f j) ≠ 0 := by
 unfold cnV
 have : 0 < (List.range n).countP fun q => decide (f q = f j) := List.countP_pos_iff.2 ⟨j, TN.2 hj, by simp⟩
 omega
theorem MH (f : Nat → Int) (i : Nat) (x : Int) : cnV f i x ≤ i := by
 unfold cnV; have := List.countP_le_length (p := fun j => decide (f j = x)) (l := List.range i); simpa using this
theorem P3 (f : Nat → Int) (es : List Pr) (i : Nat) (x : Int) : cnE f es i x ≤ es.length := by
 unfold cnE; have := List.countP_le_length (p := fun e : Pr => decide (f e.1.toNat = x)) (l := es.take i); simp at this; omega
theorem P1 {f : Nat → Int} {es : List Pr} {hs : List Int} {i : Nat} {h : Int} (hh : hs[i]? = some h) (x : Int) : cnF f es hs (i + 1) x = cnF f es hs i x + if f (headU es h) = x then 1 else 0 := by
 unfold cnF
 rw [List.take_add_one, hh, List.countP_append]
 by_cases h : f (headU es h) = x <;> simp [h]
theorem P2 (f : Nat → Int) (es : List Pr) (hs : List Int) (i : Nat) (x : Int) : cnF f es hs i x ≤ hs.length := by
 unfold cnF; have := List.countP_le_length (p := fun h : Int => decide (f (headU es h) = x)) (l := hs.take i); simp at this; omega
/-! ### counting by labels -/
theorem DM {α : Type} {p : α → Bool} : ∀ {l : List α} {a : α}, l.Nodup → a ∈ l → p a = true → (∀ b, b ∈ l → p b = true → b = a) → l.countP p = 1
 | [], a, _, h, _, _ => by cases h
 | x :: r, a, hn, ha, hp, hu => by
  rw [List.nodup_cons] at hn
  rw [List.countP_cons]
  by_cases hx : p x = true
  ·have e := hu x (by simp) hx
   subst e
   have : r.countP p = 0 := by
    rw [List.countP_eq_zero]
    intro b hb hpb
    have := hu b (by simp [hb]) hpb
    subst this; exact hn.1 hb
   simp [hx, this]
  have har : a ∈ r := by
   rcases List.mem_cons.1 ha with rfl | h
   ·exact absurd hp hx
   exact h
  rw [DM hn.2 har hp fun b hb => hu b (by simp [hb])]
  simp [hx]
theorem H8 {α : Type} {p : α → Bool} {l : List α} (h : ∀ a, a ∈ l → ¬ p a = true) : l.countP p = 0 := List.countP_eq_zero.2 h
theorem Ky {ks : List Int} {g : Int → Nat} (h : ∀ x, x ∈ ks → g x = 1) : (ks.map g).sum = ks.length := by
 induction ks with
 | nil => rfl
 | cons x r ih => simp only [List.map_cons, List.sum_cons, List.length_cons]; rw [h x (by simp), ih fun y hy => h y (by simp [hy])]; omega
theorem MZ {y : Int} : ∀ {ks : List Int}, ks.Nodup → y ∈ ks → (ks.map fun x => if y = x then 1 else 0).sum = 1
 | [], _, h => by cases h
 | x :: r, hn, h => by
  rw [List.nodup_cons] at hn
  simp only [List.map_cons, List.sum_cons]
  by_cases e : y = x
  ·subst e
   have : (r.map fun x => if y = x then 1 else 0).sum = 0 := by
    have : ∀ l : List Int, y ∉ l → (l.map fun x => if y = x then 1 else 0).sum = 0 := by
     intro l
     induction l with
     | nil => intro _; rfl
     | cons a l ih => intro hl; simp at hl; simp [hl.1, ih hl.2]
    exact this r hn.1
   rw [if_pos rfl, this]
  rw [if_neg e, MZ hn.2 (by rcases List.mem_cons.1 h with h | h; exact absurd h e; exact h)]
theorem Qw {ks : List Int} {g h : Int → Nat} : (ks.map fun x => g x + h x).sum = (ks.map g).sum + (ks.map h).sum := by
 induction ks with
 | nil => rfl
 | cons x r ih => simp only [List.map_cons, List.sum_cons, ih]; omega
theorem OO {ks : List Int} : (ks.map fun _ => 0).sum = 0 := by
 induction ks with
 | nil => rfl
 | cons x r ih => simpa using ih
/-- Things counted by their labels. -/
theorem CQ {α : Type} {ks : List Int} (hn : ks.Nodup) {g : α → Int} : ∀ {l : List α}, (∀ a, a ∈ l → g a ∈ ks) → (ks.map fun x => l.countP fun a => decide (g a = x)).sum = l.length
 | [], _ => OO
 | a :: r, h => by
  have ih := CQ hn (l := r) fun b hb => h b (by simp [hb])
  have e : (ks.map fun x => (a :: r).countP fun a => decide (g a = x)) = ks.map fun x => (r.countP fun a => decide (g a = x)) + if g a = x then 1 else 0 := by
   apply List.map_congr_left
   intro x _
   rw [List.countP_cons]
   by_cases h : g a = x <;> simp [h]
  rw [e, Qw, ih, MZ hn (h a (by simp)), List.length_cons]
/-! ### parts -/
/-- How many parts a graph has: its vertices that are the least of theirs. -/
noncomputable def ncomp (n : Nat) (es : List Pr) : Nat := (List.range n).countP fun v => decide (∀ y, y < v → ¬ Conn es y v)
def isoN (n : Nat) (es : List Pr) : Nat := (List.range n).countP fun v => decide (cnt es v = 0)
theorem Ji {es : List Pr} {a b : Nat} (h : Conn es a b) : a = b ∨ ((∃ e, e ∈ es ∧ (e.1 = a ∨ e.2 = a)) ∧ ∃ e, e ∈ es ∧ (e.1 = b ∨ e.2 = b)) := by
 induction h with
 | refl a => exact .inl rfl
 | edge u v h => exact .inr ⟨⟨_, h, .inl rfl⟩, ⟨_, h, .inr rfl⟩⟩
 | symm _ ih =>
  rcases ih with rfl | ⟨h1, h2⟩
  ·exact .inl rfl
  exact .inr ⟨h2, h1⟩
 | trans _ _ ih1 ih2 =>
  rcases ih1 with rfl | ⟨h1, h2⟩
  ·exact ih2
  rcases ih2 with rfl | ⟨h3, h4⟩
  ·exact .inr ⟨h1, h2⟩
  exact .inr ⟨h1, h4⟩
theorem Ic {N : Int} {es : List Pr} (hV : Vld N es) (v : Nat) : cnt es v ≠ 0 ↔ ∃ e, e ∈ es ∧ (e.1 = v ∨ e.2 = v) := by
 unfold cnt
 constructor
 ·intro h
  obtain ⟨x, hx⟩ : ∃ x, x ∈ outs es v := by
   cases hl : outs es v with
   | nil => rw [hl] at h; simp at h
   | cons x r => exact ⟨x, by simp⟩
  obtain ⟨h0, h1, h2⟩ := (Bl hV).1 hx
  obtain ⟨i, e, he, hc⟩ := Cp h0 h1
  refine ⟨e, TD he, ?_⟩
  rcases hc with ⟨_, h3, _⟩ | ⟨_, h3, _⟩
  ·left; omega
  right; omega
 rintro ⟨e, he, hc⟩
 obtain ⟨i, hi⟩ := TF.1 he
 have hm : ∃ h, h ∈ outs es v := by
  rcases hc with hc | hc
  ·have := Co hi (u := v) (v := e.2) hc rfl
   exact ⟨_, (Bl hV).2 ⟨this.lo, this.hi, this.fr⟩⟩
  have := C6 hi (u := v) (v := e.1) rfl hc
  exact ⟨_, (Bl hV).2 ⟨this.lo, this.hi, this.fr⟩⟩
 obtain ⟨h, hm⟩ := hm
 have := List.length_pos_of_mem hm
 omega
/-- Labels of the parts. -/
def Lab (n : Nat) (es : List Pr) (f : Nat → Int) : Prop := ∀ a b, a < n → b < n → (f a = f b ↔ Conn es a b)
theorem RG {n k : Nat} {es : List Pr} {q : Nat → Nat} {f : Nat → Int} (hP : Parts es (rt q)) (hL : Labels (rt q) n k f) : Lab n es f :=
 fun a b ha hb => (hL.2.1 a b ha hb).trans (hP a b)
section
variable {n : Nat} {es : List Pr} {f : Nat → Int}
theorem Dr (hV : Vld n es) {e : Pr} (he : e ∈ es) : ∃ u v : Nat, e = ((u : Int), (v : Int)) ∧ u < v ∧ v < n := by
 obtain ⟨i, hi⟩ := TF.1 he
 have ho := hV.ok i e hi
 have h1 := ho.lo
 have h2 := ho.lt
 have h3 := ho.hi
 exact ⟨e.1.toNat, e.2.toNat, Prod.ext (by simp; omega) (by simp; omega), by omega, by omega⟩
theorem Ie {x : Int} (h : cnE f es es.length x = 0) {e : Pr} (he : e ∈ es) : f e.1.toNat ≠ x := by
 unfold cnE at h
 rw [List.take_length, List.countP_eq_zero] at h
 simpa using h e he
theorem Q4 {x : Int} (h : cnE f es es.length x ≠ 0) : ∃ e, e ∈ es ∧ f e.1.toNat = x := by
 unfold cnE at h
 rw [List.take_length] at h
 obtain ⟨e, he, hp⟩ := List.countP_pos_iff.1 (Nat.pos_of_ne_zero h)
 exact ⟨e, he, by simpa using hp⟩
theorem Kb {x : Int} (h : cnV f n x ≠ 0) : ∃ j, j < n ∧ f j = x := by
 unfold cnV at h
 obtain ⟨j, hj, hp⟩ := List.countP_pos_iff.1 (Nat.pos_of_ne_zero h)
 exact ⟨j, TN.1 hj, by simpa using hp⟩
/-- A vertex with a part's label, of a part without edges, has none; and is NH. -/
theorem NH (hV : Vld n es) (hf : Lab n es f) {x : Int} (h0 : cnE f es es.length x = 0) {j : Nat} (hj : j < n) (hx : f j = x) : cnt es j = 0 ∧ ∀ i, i < n → f i = x → i = j := by
 have hno : ∀ i, i < n → f i = x → ¬ ∃ e, e ∈ es ∧ (e.1 = i ∨ e.2 = i) := by
  rintro i hi hfi ⟨e, he, hc⟩
  obtain ⟨u, v, rfl, huv, hvn⟩ := Dr hV he
  have h1 := Ie h0 he
  simp only [TC] at h1
  rcases hc with hc | hc
  ·have : u = i := by simp at hc; omega
   subst this; exact h1 hfi
  have : v = i := by simp at hc; omega
  subst this
  exact h1 (((hf u v (by omega) hi).2 (.edge u v he)).trans hfi)
 refine ⟨?_, fun i hi hfi => ?_⟩
 ·apply Classical.byContradiction
  intro hc
  exact hno j hj hx ((Ic hV j).1 hc)
 rcases Ji ((hf i j hi hj).1 (hfi.trans hx.symm)) with e | ⟨⟨e, he, hc⟩, _⟩
 ·exact e
 exact absurd ⟨e, he, hc⟩ (hno i hi hfi)
/-- With edges, all its vertices have some. -/
theorem Tp (hV : Vld n es) (hf : Lab n es f) {x : Int} (h0 : cnE f es es.length x ≠ 0) {j : Nat} (hj : j < n) (hx : f j = x) : cnt es j ≠ 0 := by
 obtain ⟨e, he, hfe⟩ := Q4 h0
 obtain ⟨u, v, rfl, huv, hvn⟩ := Dr hV he
 simp only [TC] at hfe
 rw [Ic hV]
 rcases Ji ((hf j u hj (by omega)).1 (hx.trans hfe.symm)) with e | ⟨h1, _⟩
 ·subst e; exact ⟨_, he, .inl rfl⟩
 exact h1
theorem O7 (hV : Vld n es) (hf : Lab n es f) {x : Int} (hx : cnV f n x ≠ 0) :
  (cnE f es es.length x = 0 → cnV f n x = 1 ∧ ((List.range n).filter fun v => decide (cnt es v = 0)).countP (fun v => decide (f v = x)) = 1) ∧
  (cnE f es es.length x ≠ 0 → ((List.range n).filter fun v => decide (cnt es v = 0)).countP (fun v => decide (f v = x)) = 0) := by
 constructor
 ·intro h0
  obtain ⟨j, hj, hfj⟩ := Kb hx
  obtain ⟨h1, h2⟩ := NH hV hf h0 hj hfj
  refine ⟨?_, ?_⟩
  ·unfold cnV
   exact DM List.nodup_range (TN.2 hj) (by simpa using hfj) fun b hb hp => h2 b (TN.1 hb) (by simpa using hp)
  refine DM (List.Nodup.sublist List.filter_sublist List.nodup_range) (List.mem_filter.2 ⟨TN.2 hj, by simpa using h1⟩) (by simpa using hfj) fun b hb hp => ?_
  exact h2 b (TN.1 (List.mem_filter.1 hb).1) (by simpa using hp)
 intro h0
 refine H8 fun v hv hp => ?_
 obtain ⟨h1, h2⟩ := List.mem_filter.1 hv
 exact Tp hV hf h0 (TN.1 h1) (by simpa using hp) (by simpa using h2)
theorem Mi (hf : Lab n es f) {x : Int} (hx : cnV f n x ≠ 0) : ((List.range n).filter fun v => decide (∀ y, y < v → ¬ Conn es y v)).countP (fun v => decide (f v = x)) = 1 := by
 -- the least vertex of the part
 have hl : ∃ j, j < n ∧ f j = x ∧ ∀ i, i < n → f i = x → j ≤ i := by
  obtain ⟨j, hj, hfj⟩ := Kb hx
  induction j using Nat.strongRecOn with
  | _ j ih =>
   by_cases hc : ∃ i, i < j ∧ f i = x
   ·obtain ⟨i, hi, hfi⟩ := hc
    exact ih i hi (by omega) hfi
   exact ⟨j, hj, hfj, fun i hi hfi => by
    apply Classical.byContradiction
    intro hlt
    exact hc ⟨i, by omega, hfi⟩⟩
 obtain ⟨j, hj, hfj, hmin⟩ := hl
 refine DM (List.Nodup.sublist List.filter_sublist List.nodup_range) (List.mem_filter.2 ⟨TN.2 hj, ?_⟩) (by simpa using hfj) fun b hb hp => ?_
 ·simp only [decide_eq_true_eq]
  intro y hy hc
  have := hmin y (by omega) (((hf y j (by omega) hj).2 hc).trans hfj)
  omega
 obtain ⟨h1, h2⟩ := List.mem_filter.1 hb
 have h1 := TN.1 h1
 simp only [decide_eq_true_eq] at h2 hp
 have h3 := hmin b h1 hp
 rcases Nat.lt_or_eq_of_le h3 with h4 | h4
 ·exact absurd ((hf j b hj h1).1 (hfj.trans hp.symm)) (h2 j h4)
 exact h4.symm
end
/-! ### the sum -/
def gval (a b c : Nat) : Int := if b ≠ 0 then 2 - a + b - c else 0
def gsum (a b c : Int → Nat) (ks : List Int) : Int := (ks.map fun x => gval (a x) (b x) (c x)).sum
theorem HW {n : Nat} {es : List Pr} {f : Nat → Int} {hs : List Int} {ks : List Int} (hV : Vld n es) (hf : Lab n es f) (hn : ks.Nodup) (hk : ∀ x, x ∈ ks ↔ cnV f n x ≠ 0)
  (hh : ∀ h, h ∈ hs → headU es h < n ∧ cnE f es es.length (f (headU es h)) ≠ 0) :
  gsum (cnV f n) (cnE f es es.length) (cnF f es hs hs.length) ks = 2 * (ncomp n es : Int) - isoN n es - n + es.length - hs.length := by
 have hin : ∀ j, j < n → f j ∈ ks := fun j hj => (hk _).2 (FW hj)
 have s1 : (ks.map (cnV f n)).sum = n := by
  have := CQ hn (g := f) (l := List.range n) fun a ha => hin a (TN.1 ha)
  rw [List.length_range] at this
  exact this
 have s2 : (ks.map (cnE f es es.length)).sum = es.length := by
  have := CQ hn (g := fun e : Pr => f e.1.toNat) (l := es) fun e he => by
   obtain ⟨u, v, rfl, huv, hvn⟩ := Dr hV he
   exact hin _ (by simp; omega)
  unfold cnE
  simpa using this
 have s3 : (ks.map (cnF f es hs hs.length)).sum = hs.length := by
  have := CQ hn (g := fun h : Int => f (headU es h)) (l := hs) fun h hm => hin _ (hh h hm).1
  unfold cnF
  simpa using this
 have s4 : (ks.map fun x => ((List.range n).filter fun v => decide (cnt es v = 0)).countP fun v => decide (f v = x)).sum = isoN n es := by
  rw [CQ hn (g := f) fun a ha => hin a (TN.1 (List.mem_filter.1 ha).1)]
  unfold isoN
  rw [List.countP_eq_length_filter]
 have s5 : ks.length = ncomp n es := by
  have h1 := CQ hn (g := f) (l := (List.range n).filter fun v => decide (∀ y, y < v → ¬ Conn es y v)) fun a ha => hin a (TN.1 (List.mem_filter.1 ha).1)
  rw [Ky fun x hx => Mi hf ((hk x).1 hx)] at h1
  rw [h1]
  unfold ncomp
  rw [List.countP_eq_length_filter]
 have key : ∀ l : List Int, (∀ x, x ∈ l → cnV f n x ≠ 0) → gsum (cnV f n) (cnE f es es.length) (cnF f es hs hs.length) l =
   2 * (l.length : Int) - ((l.map fun x => ((List.range n).filter fun v => decide (cnt es v = 0)).countP fun v => decide (f v = x)).sum : Nat) - ((l.map (cnV f n)).sum : Nat) + ((l.map (cnE f es es.length)).sum : Nat) - ((l.map (cnF f es hs hs.length)).sum : Nat) := by
  intro l
  induction l with
  | nil => intro _; rfl
  | cons x r ih =>
   intro hx
   have h1 := ih fun y hy => hx y (by simp [hy])
   obtain ⟨p1, p2⟩ := O7 hV hf (hx x (by simp))
   unfold gsum at h1 ⊢
   simp only [List.map_cons, List.sum_cons, List.length_cons]
   rw [h1]
   unfold gval
   by_cases h0 : cnE f es es.length x = 0
   ·obtain ⟨q1, q2⟩ := p1 h0
    have q3 : cnF f es hs hs.length x = 0 := by
     unfold cnF
     rw [List.take_length]
     refine H8 fun h hm hp => ?_
     have := (hh h hm).2
     rw [show f (headU es h) = x by simpa using hp] at this
     exact this h0
    rw [q1, q2, q3, h0, if_neg (by simp)]
    omega
   rw [p2 h0, if_pos h0]
   omega
 rw [key ks fun x hx => (hk x).1 hx, s1, s2, s3, s4, s5]
end Go.Fl

namespace Go.Fl
open Go Go.Proofs
open Classical
/-- The heads of the faces. -/
noncomputable def headsOf (n : Nat) (fn : Nat → Int) : List Int := ((List.range n).filter fun x => decide (Lead (phi fn) x)).map fun (x : Nat) => (x : Int)
def nxS (fn : Nat → Int) (h : Nat) : Nat := (fn h).toNat
section
variable {n : Nat} {es : List Pr} {rs : List (List Int)} {fn : Nat → Int}
theorem FC (hok : RotL n es rs) (hnx : NxOk rs rs.length fn) {v : Nat} {l : List Int} {i h : Nat} (hl : rs[v]? = some l) (hi : l[i]? = some (h : Int)) :
  l[(i + 1) % l.length]? = some (fn h) ∧ 0 ≤ fn h ∧ fn h < es.length * 2 ∧ fromV es (fn h) = v := by
 have h1 := hnx v l i h (TA.1 hl).1 hl hi
 rw [TC] at h1
 obtain ⟨h2, h3, h4⟩ := (hok.2.2 v l hl).1 _ (TD h1)
 exact ⟨h1, h2, h3, h4⟩
theorem Jy (hok : RotL n es rs) (hnx : NxOk rs rs.length fn) {v : Nat} {l : List Int} {i h : Nat} (hl : rs[v]? = some l) (hi : l[i]? = some (h : Int)) :
  ∀ k, l[(i + k) % l.length]? = some ((itr (nxS fn) k h : Nat) : Int)
 | 0 => by rw [Nat.add_zero, Nat.mod_eq_of_lt (TA.1 hi).1]; exact hi
 | k + 1 => by
  have ih := Jy hok hnx hl hi k
  obtain ⟨h1, h2, _⟩ := FC hok hnx hl ih
  rw [Nat.mod_add_mod] at h1
  rw [show i + (k + 1) = i + k + 1 by omega, h1]
  show some _ = some (((fn (itr (nxS fn) k h)).toNat : Nat) : Int)
  congr 1; omega
theorem Jr (h : Nat) : twn (twn h) = h := by unfold twn; split <;> split <;> omega
theorem Pi (hok : RotL n es rs) (hnx : NxOk rs rs.length fn) : Perm (es.length * 2) (nxS fn) := by
 obtain ⟨hp, h0⟩ := G1 hok hnx
 have e : ∀ h, nxS fn h = phi fn (twn h) := fun h => by unfold phi nxS; rw [Jr]
 have ht : ∀ h, h < es.length * 2 → twn h < es.length * 2 := fun h hh => by unfold twn; split <;> omega
 refine ⟨fun i hi => by rw [e]; exact hp.lt _ (ht i hi), fun i j hi hj he => ?_⟩
 rw [e, e] at he
 have := hp.inj _ _ (ht i hi) (ht j hj) he
 rw [← Jr i, this, Jr]
theorem OW (hok : RotL n es rs) {h v : Nat} {l : List Int} (hh : h < es.length * 2) (hv : fromV es h = v) (hl : rs[v]? = some l) : ∃ i : Nat, l[i]? = some (h : Int) := by
 obtain ⟨v', l', i, hl', hi, hv'⟩ := Fe hok hh
 have : v' = v := by omega
 subst this
 rw [hl] at hl'; cases hl'
 exact ⟨i, hi⟩
theorem I6 (hok : RotL n es rs) (hnx : NxOk rs rs.length fn) {v : Nat} {l : List Int} (hl : rs[v]? = some l) {h k : Nat} (hh : h < es.length * 2) (hk : k < es.length * 2) (h1 : fromV es h = v) (h2 : fromV es k = v)
  (hL : Lead (nxS fn) h) : h ≤ k := by
 obtain ⟨i, hi⟩ := OW hok hh h1 hl
 obtain ⟨j, hj⟩ := OW hok hk h2 hl
 have hil := (TA.1 hi).1
 have hjl := (TA.1 hj).1
 have h3 := Jy hok hnx hl hi (j + l.length - i)
 rw [show i + (j + l.length - i) = j + l.length by omega, Nat.add_mod_right, Nat.mod_eq_of_lt hjl, hj] at h3
 have h4 := hL (j + l.length - i)
 have h5 := Option.some.inj h3
 omega
theorem QN (hok : RotL n es rs) (hnx : NxOk rs rs.length fn) {v : Nat} {l : List Int} (hl : rs[v]? = some l) (hne : l ≠ []) : ∃ h : Nat, h < es.length * 2 ∧ fromV es h = v ∧ Lead (nxS fn) h := by
 have hrow := (hok.2.2 v l hl).1
 have hm : ∃ h : Nat, (h : Int) ∈ l ∧ ∀ y, y ∈ l → (h : Int) ≤ y := by
  obtain ⟨x, hx⟩ : ∃ x, x ∈ l := List.exists_mem_of_ne_nil _ hne
  obtain ⟨k, hk⟩ := TJ (hrow x hx).1
  subst hk
  induction k using Nat.strongRecOn with
  | _ k ih =>
   by_cases hc : ∃ y, y ∈ l ∧ y < k
   ·obtain ⟨y, hy, hlt⟩ := hc
    obtain ⟨q, rfl⟩ := TJ (hrow y hy).1
    exact ih q (by omega) hy
   exact ⟨k, hx, fun y hy => by
    apply Classical.byContradiction
    intro h
    exact hc ⟨y, hy, by omega⟩⟩
 obtain ⟨h, hh, hmin⟩ := hm
 obtain ⟨h0, h1, h2⟩ := hrow _ hh
 refine ⟨h, by omega, h2, fun k => ?_⟩
 obtain ⟨i, hi⟩ := TF.1 hh
 have := hmin _ (TD (Jy hok hnx hl hi k))
 omega
theorem PG (hV : Vld n es) {h : Nat} (hh : h < es.length * 2) : ∃ v : Nat, fromV es h = v ∧ v < n := by
 obtain ⟨i, e, he, hc⟩ := Cp (es := es) (h := (h : Int)) (by omega) (by omega)
 have ho := hV.ok i e he
 have h1 := ho.lo
 have h2 := ho.lt
 have h3 := ho.hi
 rcases hc with ⟨_, h4, _⟩ | ⟨_, h4, _⟩
 ·exact ⟨e.1.toNat, by omega, by omega⟩
 exact ⟨e.2.toNat, by omega, by omega⟩
/-- The labels of both ends of an edge. -/
theorem FL {f : Nat → Int} (hV : Vld n es) (hf : Lab n es f) {h : Nat} {i : Nat} {e : Pr} (he : es[i]? = some e) (hh : h / 2 = i) : f (fromV es h).toNat = f e.1.toNat := by
 have hl := (TA.1 he).1
 obtain ⟨i', e', he', hc⟩ := Cp (es := es) (h := (h : Int)) (by omega) (by omega)
 have : i' = i := by rcases hc with ⟨h1, _⟩ | ⟨h1, _⟩ <;> omega
 subst this
 rw [he] at he'; cases he'
 obtain ⟨u, v, rfl, huv, hvn⟩ := Dr hV (TD he)
 rcases hc with ⟨_, h4, _⟩ | ⟨_, h4, _⟩
 ·rw [h4]
 rw [h4]
 simp only [TC]
 exact (hf v u hvn (by omega)).2 (.symm (.edge u v (TD he)))
theorem FV {α : Type} {p : α → Bool} {q : Nat → Bool} : ∀ {l : List α} {k : Nat}, (∀ i e, l[i]? = some e → q (k + i) = p e) → l.countP p = (List.range' k l.length).countP q
 | [], k, _ => rfl
 | a :: r, k, h => by
  rw [List.length_cons, List.range'_succ, List.countP_cons, List.countP_cons, FV (l := r) (k := k + 1) (q := q) fun i e he => by
   rw [show k + 1 + i = k + (i + 1) by omega]; exact h (i + 1) e (by simpa using he)]
  have := h 0 a rfl
  rw [Nat.add_zero] at this
  rw [← this]
theorem HV {h : Nat} {e : Pr} (he : es[h / 2]? = some e) : headU es (h : Int) = e.1.toNat := by
 unfold headU
 rw [show ((h : Int) / 2).toNat = h / 2 by omega, he]; rfl
theorem IV {f : Nat → Int} (hok : RotL n es rs) (hnx : NxOk rs rs.length fn) (hf : Lab n es f) {x : Int} (h0 : cnE f es es.length x ≠ 0) :
  (cnV f n x + cnE f es es.length x + cnF f es (headsOf (es.length * 2) fn) (headsOf (es.length * 2) fn).length x) % 2 = 0 := by
 have hV := hok.1
 have hs := Pi hok hnx
 obtain ⟨c, hc⟩ : ∃ c : Nat → Bool, c = fun (i : Nat) => decide (f (fromV es (i : Int)).toNat = x) := ⟨_, rfl⟩
 have hm2 : es.length * 2 = 2 * es.length := by omega
 have h1 : ∀ i, i < 2 * es.length → c (nxS fn i) = c i := by
  intro i hi
  obtain ⟨v, l, j, hl, hj, hv⟩ := Fe hok (h := i) (by omega)
  obtain ⟨_, g1, g2, g3⟩ := FC hok hnx hl hj
  have : ((nxS fn i : Nat) : Int) = fn i := by unfold nxS; omega
  rw [hc]; simp only [this, g3, hv]
 have h2 : ∀ i, i < 2 * es.length → c (twn i) = c i := by
  intro i hi
  obtain ⟨e, he⟩ : ∃ e, es[i / 2]? = some e := ⟨_, Tz (by omega)⟩
  rw [hc]
  simp only
  rw [FL hV hf he rfl, FL hV hf (h := twn i) he (by unfold twn; split <;> omega)]
 rw [hm2] at hs
 have hpar := Lv hs h1 h2
 have e1 : (List.range (2 * es.length)).countP (fun i => c i && decide (Lead (fun h => nxS fn (twn h)) i)) = cnF f es (headsOf (es.length * 2) fn) (headsOf (es.length * 2) fn).length x := by
  unfold cnF headsOf
  rw [List.take_length, List.countP_map, List.countP_filter, hm2]
  apply List.countP_congr
  intro i hi
  have hi := TN.1 hi
  obtain ⟨e, he⟩ : ∃ e, es[i / 2]? = some e := ⟨_, Tz (by omega)⟩
  have e2 : (fun h => nxS fn (twn h)) = phi fn := rfl
  simp only [Function.comp_def]
  rw [e2, hc]
  simp only
  rw [FL hV hf he rfl, HV he]
 have e2 : (List.range es.length).countP (fun e => c (2 * e)) = cnE f es es.length x := by
  unfold cnE
  rw [List.take_length, List.range_eq_range']
  refine (FV (k := 0) (q := fun e => c (2 * e)) ?_).symm
  intro i e he
  rw [hc]
  simp only [Nat.zero_add]
  rw [FL hV hf (h := 2 * i) he (by omega)]
 have e3 : (List.range (2 * es.length)).countP (fun i => c i && decide (Lead (nxS fn) i)) = cnV f n x := by
  have hk : (((List.range n).filter fun v => decide (f v = x)).map fun (v : Nat) => (v : Int)).Nodup := by
   unfold List.Nodup
   rw [List.pairwise_map]
   exact (List.Nodup.sublist List.filter_sublist List.nodup_range).imp fun h => by omega
  have hsum := CQ hk (g := fun h : Nat => fromV es h) (l := (List.range (2 * es.length)).filter fun i => c i && decide (Lead (nxS fn) i)) fun h hh => by
   obtain ⟨g1, g2⟩ := List.mem_filter.1 hh
   have g1 := TN.1 g1
   obtain ⟨v, hv, hvn⟩ := PG hV (h := h) (by omega)
   rw [hc] at g2
   simp only [Bool.and_eq_true, decide_eq_true_eq, hv, TC] at g2
   exact List.mem_map.2 ⟨v, List.mem_filter.2 ⟨TN.2 hvn, by simpa using g2.1⟩, hv.symm⟩
  rw [Ky] at hsum
  ·rw [List.countP_eq_length_filter, ← hsum, List.length_map, ← List.countP_eq_length_filter]; rfl
  intro y hy
  obtain ⟨v, hv, rfl⟩ := List.mem_map.1 hy
  obtain ⟨hv1, hv2⟩ := List.mem_filter.1 hv
  have hv1 := TN.1 hv1
  have hv2 : f v = x := by simpa using hv2
  have hlen := hok.2.1
  obtain ⟨l, hl⟩ : ∃ l, rs[v]? = some l := ⟨_, Tz (by omega)⟩
  have hne : l ≠ [] := by
   intro e
   have h3 := (hok.2.2 v l hl).2.2
   rw [e] at h3
   exact Tp hV hf h0 hv1 hv2 (by simpa using h3.symm)
  obtain ⟨h, g1, g2, g3⟩ := QN hok hnx hl hne
  refine DM (List.Nodup.sublist List.filter_sublist List.nodup_range) (a := h) (List.mem_filter.2 ⟨TN.2 (by omega), ?_⟩) (by simpa using g2) fun b hb hp => ?_
  ·rw [hc]; simp [g2, hv2, g3]
  obtain ⟨b1, b2⟩ := List.mem_filter.1 hb
  have b1 := TN.1 b1
  simp only [Bool.and_eq_true, decide_eq_true_eq] at b2 hp
  have q1 := I6 hok hnx hl g1 (by omega) g2 hp g3
  have q2 := I6 hok hnx hl (h := b) (k := h) (by omega) g1 hp g2 b2.2
  omega
 rw [e1, e2, e3] at hpar
 omega
end
end Go.Fl

namespace Go.Fl
open Go Go.Proofs
open Classical
structure GeI where
 i : Nat
 m : List (Int × Value)
def ints0 (i k : Nat) : List Int := (List.range k).map fun (x : Nat) => (x : Int)
structure GeK where
 left : List (Int × Value)
 last : Option (Int × Value)
 S : Int
/-- How many faces. -/
noncomputable def facesN (es : List Pr) (fn : Nat → Int) : Nat := (headsOf (es.length * 2) fn).length
/-- Twice the sum of the genera of the parts. -/
noncomputable def genus2 (n : Nat) (es : List Pr) (fn : Nat → Int) : Int := 2 * (ncomp n es : Int) - isoN n es - n + es.length - facesN es fn
theorem HX {a b c : Int → Nat} : ∀ {ks : List Int} {j : Nat} {x : Int}, ks[j]? = some x → gsum a b c ks = gval (a x) (b x) (c x) + gsum a b c (ks.eraseIdx j)
 | [], j, x, h => by simp at h
 | y :: r, 0, x, h => by simp at h; subst h; rfl
 | y :: r, j + 1, x, h => by
  have := HX (a := a) (b := b) (c := c) (ks := r) (j := j) (x := x) (by simpa using h)
  unfold gsum at this ⊢
  rw [List.eraseIdx_cons_succ]
  simp only [List.map_cons, List.sum_cons]
  omega
theorem LQ {n : Nat} {es : List Pr} {rs : List (List Int)} {va v : Value} {w : World} (hg : PrV w va es) (hl : LsV w v rs) (hok : RotL n es rs) :
  Calls Tryz.prog 121 #[.agg #[.int .i64 n, va], v] w (Ret w [] fun r M => M = [] ∧ ∃ fn S, NxOk rs rs.length fn ∧ r = .tuple #[.int .i64 S, .int .i64 0] ∧ 2 * S = genus2 n es fn) := by
 obtain ⟨A, cap, ev, hr, hlc, hcm, hle⟩ := id hg
 subst ev
 have hV := hok.1
 have hfew := hV.few
 have hN1 : n ≤ 1048576 := by have := hV.hi; omega
 refine Ao (args := [_, _]) (L := []) Tryz.func121 rfl Tryz.ntmps121 rfl (Own.start _ _) ?_
 refine Zs ?_
 refine Zw (Ba (cs := #[.int .i64 n, .slice A es.length cap]) rfl rfl rfl) fun g2 => ?_
 iterate 2 refine Za ?_
 refine Zx <| Zs ?_
 refine Zu (Ay (vs := [_, _]) rfl rfl Bn Bg rfl (Ak rfl)) ?_
 refine Zm ?_
 refine Seq.rel rfl rfl (Ar S1 rfl rfl rfl (fun w' hw => OF (hg.keep0 hw) (hl.keep0 hw) (fun f h1 h2 => G1 h1 h2))) ?_
 intro v28 L28 hC28
 obtain ⟨_, vf, fs, fn, rfl, hnx, hD, rfl⟩ := hC28.resolve_right (fun h => h.1 hok)
 refine Seq.own (M := slc vf 44 1 (rowsV fs) :: blk g2 24 #[.int .i64 n, .slice A es.length cap] :: rowsC 3 fs) (fun w hw => hw.perm (List.Perm.cons _ (TR (l₁ := [_]) (l₂ := rowsC 3 fs)))) ?_
 refine Zm ?_
 iterate 2 refine Ze ?_
 iterate 2 refine Za ?_
 refine Zx <| DC.seq <| Zs ?_
 refine Zm ?_
 refine Zo (BK rfl rfl rfl) ?_
 refine Zx ?_
 refine Zd (fun c2 => ?_) fun c2 => ?_
 ·refine Zs ?_
  refine Zm ?_
  iterate 2 refine Za ?_
  refine Zx <| DC.ret <| Aa ?_
  refine Fin.weak (E' := [(4, _), (5, _)]) ⟨rfl, rfl, trivial⟩ .nil ?_
  refine AL (.inl rfl) rfl rfl rfl ?_
  simp at c2
 refine DC.skip <| Fin.then <| Zs ?_
 refine Zu (Ay (vs := [_, _]) rfl rfl Bn Bg rfl (Ak rfl)) ?_
 refine Seq.rel rfl rfl (Ar S0 rfl rfl rfl (fun w' hw => Ql (hg.keep0 hw) hV)) ?_
 rintro _ _ ⟨gl, k, f, q, rfl, hq, hPa, hLa, rfl⟩
 simp only [zs]
 refine Zm ?_
 iterate 3 refine Ze ?_
 iterate 3 refine Za ?_
 refine Zx <| Zs ?_
 refine Seq.rel rfl rfl (De (enc := encI) rfl) ?_
 rintro _ _ ⟨gm, rfl, rfl⟩
 simp only [zs]
 refine Za ?_
 refine Zx <| DC.seq <| Zs ?_
 refine Zm ?_
 refine Zn TT ?_
 refine Zm ?_
 refine Zx <| DC.block ?_
 refine DC.loop (ι := GeI) (fun j => j.i ≤ n ∧ Tal j.m (cnV f j.i) (fun _ => 0) (fun _ => 0))
  (fun j => [(2, .pointer (some ⟨g2, 0, none⟩)), (6, vf), (8, .slice (some ⟨gl, 0, none⟩) n n), (11, .map (some gm)), (41, .slice (some ⟨gl, 0, none⟩) n n), (42, .int .i64 n), (43, .int .i64 j.i)])
  (fun j => mpc encI gm j.m :: blk gl 3 (ints (tab n f)).toArray :: slc vf 44 1 (rowsV fs) :: blk g2 24 #[.int .i64 n, .slice A es.length cap] :: rowsC 3 fs) (fun j => n - j.i) ⟨0, []⟩
  ⟨Nat.zero_le _, by simp, fun x => by simp [cnV]⟩ ⟨rfl, rfl, rfl, rfl, rfl, rfl, rfl, trivial⟩ (.cons 0 rfl (.cons 0 rfl (Pick.all _))) ?_
 rintro ⟨i, m⟩ ⟨hi, hm⟩
 dsimp only at hi hm ⊢
 refine Zs ?_
 refine Zc ?_
 refine Zx <| DC.seq ?_
 refine Zd (fun c7 => ?_) fun c7 => ?_
 ·have hlt : i < n := by simpa using c7
  have hb1 := MH f i (f i)
  refine DC.skip <| Fin.then <| DC.seq <| DC.block <| Zs ?_
  refine Zi TT AQ ?_
  refine Zu (Ai rfl rfl AJ (Bi (Bt hlt))) ?_
  refine Za ?_
  refine Zx <| Zs ?_
  iterate 2 refine Zm ?_
  refine Zu (C3 (v := tl (cnV f i (f i)) 0 0) (k := f i) 0 rfl EH rfl rfl rfl Tryz.underlying228 Hc (Jv hm (f i) (fun _ => ⟨rfl, rfl⟩))) ?_
  refine Zw (AD rfl Hc rfl) fun g14 => ?_
  refine Zy (At (cs' := #[.int .i64 (cnV f i (f i)), .int .i64 0, .int .i64 0]) rfl rfl rfl Hj rfl (TB rfl) rfl) ?_
  refine Zx <| Zs ?_
  refine Zf J1 ?_
  refine Zl AJ ?_
  refine Zp ?_
  refine Zf J1 ?_
  refine Zy (AE (cs' := #[_, _, _]) rfl rfl rfl AQ rfl (TB rfl) rfl) ?_
  refine Zx <| DC.region ?_
  iterate 2 refine Zm ?_
  refine Zu (Ay (vs := [_, _, _]) rfl rfl Qf Hj rfl (Ak (vs := [.int .i64 ((cnV f i (f i) : Nat) + 1), .int .i64 0, .int .i64 0]) rfl)) ?_
  refine Zy (BX (k := f i) 1 rfl EH rfl rfl rfl rfl Tryz.underlying228 rfl) ?_
  simp only [List.set_cons_zero, List.set_cons_succ]
  refine Seq.nil <| Fin.inBlock <| Fin.then <| DC.region ?_
  refine Zp ?_
  refine Zm ?_
  refine Seq.nil ?_
  refine Fin.own (fun w hw => hw.sub (TG ..)) ?_
  refine Ag ⟨i + 1, putM (f i) (tl (cnV f (i + 1) (f i)) 0 0) m⟩ (by dsimp only; omega) ⟨by dsimp only; omega, ?_⟩ ⟨rfl, rfl, rfl, rfl, rfl, rfl, rfl, trivial⟩ (.cons' 0 rfl (by dsimp only; rw [Id, if_pos rfl]; rfl) (Pick.all _))
  refine Ju (a' := cnV f (i + 1)) (b' := fun _ => 0) (c' := fun _ => 0) hm (f i) (by rw [Id, if_pos rfl]; omega) fun y hy => ⟨?_, rfl, rfl⟩
  rw [Id, if_neg (Ne.symm hy)]; rfl
 refine DC.exit <| Ad <| Ad <| Ah <| Fin.then <| DC.seq <| Zs ?_
 refine Zf Be ?_
 refine Zl Bu ?_
 refine Zn TU ?_
 refine Zm ?_
 refine Zx <| DC.block ?_
 have hin : i = n := by simp at c7; omega
 subst hin
 refine DC.loop (ι := GeI) (fun j => j.i ≤ es.length ∧ Tal j.m (cnV f i) (cnE f es j.i) (fun _ => 0))
  (fun j => [(2, .pointer (some ⟨g2, 0, none⟩)), (6, vf), (8, .slice (some ⟨gl, 0, none⟩) i i), (11, .map (some gm)), (59, .slice A es.length cap), (60, .int .i64 es.length), (61, .int .i64 j.i)])
  (fun j => mpc encI gm j.m :: blk gl 3 (ints (tab i f)).toArray :: slc vf 44 1 (rowsV fs) :: blk g2 24 #[.int .i64 i, .slice A es.length cap] :: rowsC 3 fs) (fun j => es.length - j.i) ⟨0, m⟩
  ⟨Nat.zero_le _, hm.1, fun x => by rw [hm.2 x]; simp [cnE]⟩ ⟨rfl, rfl, rfl, rfl, rfl, rfl, rfl, trivial⟩ (Pick.all _) ?_
 rintro ⟨i2, m2⟩ ⟨hi2, hm2⟩
 dsimp only at hi2 hm2 ⊢
 refine Zs ?_
 refine Zc ?_
 refine Zx <| DC.seq ?_
 refine Zd (fun c14 => ?_) fun c14 => ?_
 ·have hlt : i2 < es.length := by simpa using c14
  obtain ⟨e, he⟩ : ∃ e, es[i2]? = some e := ⟨_, Tz hlt⟩
  obtain ⟨ad, rfl, hU, hVe⟩ := hr.pair he
  have ho := hV.ok i2 e he
  obtain ⟨u, hu⟩ := TJ ho.lo
  obtain ⟨u2, hu2⟩ := TJ (show 0 ≤ e.2 by have := ho.lo; have := ho.lt; omega)
  obtain rfl : e = ((u : Int), (u2 : Int)) := Prod.ext hu hu2
  clear hu hu2
  have hun : u < i := by have h1 := ho.lt; have h2 := ho.hi; simp at h1 h2; omega
  replace hU : w.cell? (ad.add (i2 * 2)) = some (.int .i64 (u : Int)) := hU
  replace hVe : w.cell? (ad.add (i2 * 2 + 1)) = some (.int .i64 (u2 : Int)) := hVe
  have hb2 := P3 f es i2 (f u)
  have hb3 := MH f i (f u)
  refine DC.skip <| Fin.then <| DC.seq <| DC.block <| Zs ?_
  refine Zo (AM rfl rfl rfl TU AY (by omega) (by omega) (by first | exact AC _ _ | exact Bj _ _ _ | rfl)) ?_
  refine Zu (Ay (vs := [_, _]) rfl rfl B3 AY rfl (Cv hU hVe (by simp))) ?_
  refine Zw (AD rfl CE rfl) fun g16 => ?_
  refine Zy (At (cs' := #[_, _]) rfl rfl rfl AY rfl (TB rfl) rfl) ?_
  refine Zx <| Zs ?_
  iterate 2 refine Zm ?_
  refine Zf Bb ?_
  refine Zl AJ ?_
  refine Zi TT AQ ?_
  refine Zu (Ai rfl rfl AJ (Bi (Bt hun))) ?_
  refine Zu (C3 (v := tl (cnV f i (f u)) (cnE f es i2 (f u)) 0) (k := f u) 1 rfl EH rfl rfl rfl Tryz.underlying228 Hc (Jv hm2 (f u) (fun e => absurd e (FW hun)))) ?_
  refine Zw (AD rfl Hc rfl) fun g17 => ?_
  refine Zy (At (cs' := #[.int .i64 (cnV f i (f u)), .int .i64 (cnE f es i2 (f u)), .int .i64 0]) rfl rfl rfl Hj rfl (TB rfl) rfl) ?_
  refine Zx <| Zs ?_
  refine Zf Ha ?_
  refine Zl AJ ?_
  refine Zp ?_
  refine Zf Ha ?_
  refine Zy (AE (cs' := #[_, _, _]) rfl rfl rfl AQ rfl (TB rfl) rfl) ?_
  refine Zx ?_
  refine AF (cl := [.q, .q, .q, .v, .q, .v, .v, .g]) (A := [0, 0, 0, 4, 14, 30, 0, 127]) (order := [0, 1, 2, 3, 4, 5, 6, 7]) [] mixed (by kernel_rfl) (fun w hw => hw.pick .nil) ?_
  iterate 2 refine Ym ?_
  refine Yf Bb ?_
  refine Yl AJ ?_
  refine Yo rfl (Aj rfl rfl rfl TT AQ (by omega) (by omega) (by first | exact AC _ _ | exact Bj _ _ _ | rfl)) ?_
  refine Am rfl rfl rfl rfl (Ai rfl rfl AJ (Bi (Bt hun))) ?_
  refine Am rfl rfl rfl rfl (Ay (vs := [_, _, _]) rfl rfl Qf Hj rfl (Ak (vs := [.int .i64 (cnV f i (f u)), .int .i64 ((cnE f es i2 (f u) : Nat) + 1), .int .i64 0]) rfl)) ?_
  refine AS rfl rfl rfl rfl (BX (k := f u) 2 rfl EH rfl rfl rfl rfl Tryz.underlying228 rfl) (fun w hw => hw.pick (.nil)) ?_
  refine Flow.end rfl ?_
  simp only [zq, zr]
  refine Fin.inBlock <| Fin.then <| DC.region ?_
  refine Zp ?_
  refine Zm ?_
  refine Seq.nil ?_
  have e1 : cnE f es (i2 + 1) (f u) = cnE f es i2 (f u) + 1 := by rw [LF he]; simp
  refine Fin.own (fun w hw => (hw.sub (TG ..)).sub (TG ..)) ?_
  refine Ag ⟨i2 + 1, putM (f u) (tl (cnV f i (f u)) (cnE f es (i2 + 1) (f u)) 0) m2⟩ (by dsimp only; omega) ⟨by dsimp only; omega, ?_⟩ ⟨rfl, rfl, rfl, rfl, rfl, rfl, rfl, trivial⟩ (.cons' 0 rfl (by dsimp only; rw [e1]; rfl) (Pick.all _))
  refine Ju (a' := cnV f i) (b' := cnE f es (i2 + 1)) (c' := fun _ => 0) hm2 (f u) (FW hun) fun y hy => ⟨rfl, ?_, rfl⟩
  have : ¬ f u = y := fun e => hy e.symm
  rw [LF he]; simp [this]
 refine DC.exit <| Ad <| Ad <| Ah <| Fin.then <| DC.seq <| DC.seq ?_
 have hi2e : i2 = es.length := by simp at c14; omega
 subst hi2e
 refine F9 (i := 2) rfl ?_
 rintro Af cf' rfl hAf
 rw [rowsV_length]
 obtain ⟨hs, hhs⟩ : ∃ hs : List Int, hs = fs.map fun p => p.2.headD 0 := ⟨_, rfl⟩
 have hhead : ∀ (j : Nat) (p : Value × List Int), fs[j]? = some p → ∃ x : Nat, x < es.length * 2 ∧ p.2[0]? = some (x : Int) ∧ hs[j]? = some (x : Int) := by
  intro j p hp
  have h1 : (fs.map fun p => p.2.head?)[j]? = some p.2.head? := by rw [List.getElem?_map, hp]; rfl
  rw [hD.heads, List.getElem?_map, Option.map_eq_some_iff] at h1
  obtain ⟨x, hx, hxe⟩ := h1
  have hxm := TD hx
  have hxl : x < es.length * 2 := TN.1 (List.mem_filter.1 hxm).1
  refine ⟨x, hxl, by rw [← List.head?_eq_getElem?, ← hxe], ?_⟩
  rw [hhs, List.getElem?_map, hp]
  simp [List.headD_eq_head?_getD, ← hxe]
 have hfsl : fs.length ≤ 8388608 := by
  have h1 := congrArg List.length hD.heads
  simp only [List.length_map] at h1
  have h2 := List.length_filter_le (fun x => decide (Lead (phi fn) x)) (List.range (es.length * 2))
  simp at h2; omega
 refine DC.region ?_
 refine Zm ?_
 refine Zn TW ?_
 refine Zm ?_
 refine Zx <| DC.block ?_
 refine DC.loop (ι := GeI) (fun j => j.i ≤ fs.length ∧ Tal j.m (cnV f i) (cnE f es es.length) (cnF f es hs j.i))
  (fun j => [(2, .pointer (some ⟨g2, 0, none⟩)), (8, .slice (some ⟨gl, 0, none⟩) i i), (11, .map (some gm)), (84, .slice Af fs.length cf'), (85, .int .i64 fs.length), (86, .int .i64 j.i)])
  (fun j => mpc encI gm j.m :: blk gl 3 (ints (tab i f)).toArray :: slc (.slice Af fs.length cf') 44 1 (rowsV fs) :: blk g2 24 #[.int .i64 i, .slice A es.length cap] :: rowsC 3 fs) (fun j => fs.length - j.i) ⟨0, m2⟩
  ⟨Nat.zero_le _, hm2.1, fun x => by rw [hm2.2 x]; simp [cnF]⟩ ⟨rfl, rfl, rfl, rfl, rfl, rfl, trivial⟩ (Pick.all _) ?_
 rintro ⟨i3, m3⟩ ⟨hi3, hm3⟩
 dsimp only at hi3 hm3 ⊢
 refine Zs ?_
 refine Zc ?_
 refine Zx <| DC.seq ?_
 refine Zd (fun c21 => ?_) fun c21 => ?_
 ·have hlt3 : i3 < fs.length := by simpa using c21
  obtain ⟨p, hp⟩ : ∃ p, fs[i3]? = some p := ⟨_, Tz hlt3⟩
  obtain ⟨adf, rfl⟩ := hAf (fun e => by have := congrArg List.length e; simp at this; rw [this] at hlt3; simp at hlt3)
  refine DC.skip <| Fin.then <| DC.seq <| DC.block <| Zs ?_
  refine Zi TW BE ?_
  refine Zu (Ai rfl rfl BA (Lk (i := 2) (q := p.1) rfl (by simp [rowsV, hp]))) ?_
  refine Za ?_
  refine Zx <| DC.seq ?_
  obtain ⟨x, hx, hx0, hxh⟩ := hhead i3 p hp
  have hpl := hD.short p (TD hp)
  refine DC.slcs (v := p.1) (i := i3 + 4) (xs := p.2) (t := 3) (by simp [rowsC, hp]) (by omega) ?_
  rintro A3 c3 hp1 hA3
  obtain ⟨ad3, rfl⟩ := hA3 (fun e => by rw [e] at hx0; simp at hx0)
  have hp2 : 0 < p.2.length := (TA.1 hx0).1
  rw [hp1]
  obtain ⟨e, he⟩ : ∃ e, es[x / 2]? = some e := ⟨_, Tz (by omega)⟩
  obtain ⟨ad, rfl, hU, hVe⟩ := hr.pair he
  have ho := hV.ok (x / 2) e he
  obtain ⟨u, hu⟩ := TJ ho.lo
  rw [hu] at hU
  have hun : u < i := by have h1 := ho.lt; have h2 := ho.hi; omega
  have hxd : ((x : Int) / 2).toNat = x / 2 := by omega
  refine AF (cl := [.q, .q, .v, .q, .q, .v, .q, .q, .q, .v, .q, .v, .q]) (A := [0, 0, 2, 0, 8, 24, 56, 126, 254, 510, 1023, 2047, 4095]) (order := [0, 1, 2, 3, 4, 5, 6, 7, 8, 9, 10, 11, 12]) [] mixed (by kernel_rfl) (fun w hw => hw.pick .nil) ?_
  refine Ym ?_
  refine Yf Be ?_
  refine Yl Bu ?_
  refine Ym ?_
  refine Yo rfl (Aj (ad' := ad3.add 0) rfl rfl rfl TT AQ (by omega) (by omega) rfl) ?_
  refine Am rfl rfl rfl rfl (Ai rfl rfl AJ (BU (t := 3) (i := i3 + 4) (l := p.2.length) (c := c3) (by rw [← hp1]; simp [rowsC, hp]) hx0 (by omega))) ?_
  refine Yo rfl (IX rfl rfl rfl (by omega) (by omega)) ?_
  refine Yo rfl (AM (ad' := ad.add (x / 2 * 2)) rfl rfl rfl TU AY (by omega) (by omega) (by rw [hxd])) ?_
  refine Yo rfl (Bq (ad' := ad.add (x / 2 * 2)) rfl rfl Bb (by simp [Addr.add])) ?_
  refine Am rfl rfl rfl rfl (Ai rfl rfl AJ (Aw hU)) ?_
  refine Yo rfl (Aj rfl rfl rfl TT AQ (by omega) (by omega) (by first | exact AC _ _ | exact Bj _ _ _ | rfl)) ?_
  refine Am rfl rfl rfl rfl (Ai rfl rfl AJ (Bi (Bt hun))) ?_
  refine Yo rfl (AR rfl rfl) ?_
  refine Flow.end rfl ?_
  simp only [zq, zr]
  refine Fin.then <| DC.seq ?_
  have hb4 := P2 f es hs i3 (f u)
  have hhl : hs.length = fs.length := by rw [hhs]; simp
  have hFs : ∀ y, cnF f es hs (i3 + 1) y = cnF f es hs i3 y + if f u = y then 1 else 0 := fun y => by
   have h1 : headU es x = u := by unfold headU; rw [hxd, he]; simp [hu]
   rw [P1 hxh, h1]
  refine DC.region ?_
  iterate 2 refine Zm ?_
  refine Zu (C3 (v := tl (cnV f i (f u)) (cnE f es es.length (f u)) (cnF f es hs i3 (f u))) (k := f u) 0 rfl EH rfl rfl rfl Tryz.underlying228 Hc (Jv hm3 (f u) (fun e => absurd e (FW hun)))) ?_
  refine Zw (AD rfl Hc rfl) fun g21 => ?_
  refine Zy (At (cs' := #[.int .i64 (cnV f i (f u)), .int .i64 (cnE f es es.length (f u)), .int .i64 (cnF f es hs i3 (f u))]) rfl rfl rfl Hj rfl (TB rfl) rfl) ?_
  refine Zx <| Zs ?_
  refine Zf J0 ?_
  refine Zl AJ ?_
  refine Zp ?_
  refine Zf J0 ?_
  refine Zy (AE (cs' := #[_, _, _]) rfl rfl rfl AQ rfl (TB rfl) rfl) ?_
  refine Zx <| DC.region ?_
  iterate 2 refine Zm ?_
  refine Zu (Ay (vs := [_, _, _]) rfl rfl Qf Hj rfl (Ak (vs := [.int .i64 (cnV f i (f u)), .int .i64 (cnE f es es.length (f u)), .int .i64 ((cnF f es hs i3 (f u) : Nat) + 1)]) rfl)) ?_
  refine Zy (BX (k := f u) 1 rfl EH rfl rfl rfl rfl Tryz.underlying228 rfl) ?_
  simp only [List.set_cons_zero, List.set_cons_succ]
  refine Seq.nil <| Fin.inBlock <| Fin.then <| DC.region ?_
  refine Zp ?_
  refine Zm ?_
  refine Seq.nil ?_
  have e1 : cnF f es hs (i3 + 1) (f u) = cnF f es hs i3 (f u) + 1 := by rw [hFs]; simp
  refine Fin.own (fun w hw => hw.sub (TG ..)) ?_
  refine Ag ⟨i3 + 1, putM (f u) (tl (cnV f i (f u)) (cnE f es es.length (f u)) (cnF f es hs (i3 + 1) (f u))) m3⟩ (by dsimp only; omega) ⟨by dsimp only; omega, ?_⟩ ⟨rfl, rfl, rfl, rfl, rfl, rfl, trivial⟩ (.cons' 0 rfl (by dsimp only; rw [e1]; rfl) (Pick.all _))
  refine Ju (a' := cnV f i) (b' := cnE f es es.length) (c' := cnF f es hs (i3 + 1)) hm3 (f u) (FW hun) fun y hy => ⟨rfl, rfl, ?_⟩
  have : ¬ f u = y := fun e => hy e.symm
  rw [hFs]; simp [this]
 refine DC.exit <| Ad <| Ad <| Ah <| Fin.then <| DC.seq ?_
 have hi3e : i3 = fs.length := by simp at c21; omega
 subst hi3e
 have hhl : hs.length = fs.length := by rw [hhs]; simp
 have hheads : hs = headsOf (es.length * 2) fn := by
  rw [hhs]
  unfold headsOf
  have h1 := hD.heads
  have h2 : fs.map (fun p => p.2.headD 0) = (fs.map fun p => p.2.head?).map fun o => o.getD 0 := by rw [List.map_map]; apply List.map_congr_left; intro p _; simp [List.headD_eq_head?_getD]
  rw [h2, h1, List.map_map]
  rfl
 rw [← hhl] at hm3
 have hL := RG hPa hLa
 have hhin : ∀ h, h ∈ hs → headU es h < i ∧ cnE f es es.length (f (headU es h)) ≠ 0 := by
  intro h hh
  rw [hheads] at hh
  obtain ⟨y, hy, rfl⟩ := List.mem_map.1 hh
  have hy2 := TN.1 (List.mem_filter.1 hy).1
  obtain ⟨e, he⟩ : ∃ e, es[y / 2]? = some e := ⟨_, Tz (by omega)⟩
  have hem := TD he
  obtain ⟨u, u2, rfl, h1, h2⟩ := Dr hV hem
  rw [HV he]
  refine ⟨by simp; omega, fun h0 => Ie h0 hem rfl⟩
 have hkeys : ∀ x, x ∈ m3.map (·.1) ↔ cnV f i x ≠ 0 := by
  intro x
  have h1 := hm3.2 x
  constructor
  ·intro hx h0
   rw [if_pos h0] at h1
   exact HO h1 hx
  intro h0
  rw [if_neg h0] at h1
  exact List.mem_map.2 ⟨_, G4 h1, rfl⟩
 have htot := HW hV hL hm3.1 hkeys hhin
 have hent : ∀ p, p ∈ m3 → p.2 = tl (cnV f i p.1) (cnE f es es.length p.1) (cnF f es hs hs.length p.1) := by
  intro p hp
  have h1 := Mm hm3.1 (x := p.1) (v := p.2) hp
  rw [hm3.2] at h1
  rw [if_neg ((hkeys _).1 (List.mem_map.2 ⟨p, hp, rfl⟩))] at h1
  exact (Option.some.inj h1).symm
 have hmlen : m3.length ≤ 1048576 := by
  have h1 := Gm (b := ints0 i k) hm3.1 (fun x hx => ?_)
  ·simp [ints0] at h1; have := hLa.2.2.2; omega
  obtain ⟨j, hj, hfj⟩ := Kb ((hkeys x).1 hx)
  obtain ⟨h2, h3⟩ := hLa.1 j hj
  rw [hfj] at h2 h3
  exact List.mem_map.2 ⟨x.toNat, TN.2 (by omega), by omega⟩
 refine DC.region ?_
 refine Za ?_
 refine Zx <| DC.seq <| Zs ?_
 refine Zm ?_
 refine Seq.gen rfl rfl (Nu (enc := encI) (m := m3) 0 rfl rfl rfl Tryz.underlying228) ?_
 rintro _ _ ⟨gi, rfl, rfl⟩
 rw [List.set_cons_zero]
 refine Zx <| DC.block ?_
 refine DC.loop (ι := GeK) (fun j => (∀ p, p ∈ j.left → p ∈ m3) ∧ 2 * j.S + gsum (cnV f i) (cnE f es es.length) (cnF f es hs hs.length) (j.left.map (·.1)) = genus2 i es fn ∧ j.left.length ≤ m3.length ∧
   -(16777216 * ((m3.length : Int) - j.left.length)) ≤ j.S ∧ j.S ≤ 16777216 * ((m3.length : Int) - j.left.length))
  (fun j => [(22, .int .i64 j.S), (114, .pointer (some ⟨gi, 0, none⟩))]) (fun j => [mit encI gm gi m3 j.left j.last]) (fun j => j.left.length) ⟨m3, none, 0⟩
  ⟨fun p hp => hp, by dsimp only; rw [htot]; unfold genus2 facesN; rw [← hheads]; omega, Nat.le_refl _, by dsimp only; omega, by dsimp only; omega⟩ ⟨rfl, rfl, trivial⟩ (.cons 0 rfl .nil) ?_
 rintro ⟨left, last, S⟩ ⟨hleft, hS, hll, hS1, hS2⟩
 dsimp only at hleft hS hll hS1 hS2 ⊢
 refine Zs ?_
 refine Seq.gen rfl rfl (PD (enc := encI) 0 rfl rfl rfl) ?_
 intro v115 L115 hC115
 obtain ⟨b, rest, rfl, hcase⟩ : ∃ b rest, v115 = .tuple ⟨.bool b :: rest⟩ ∧ ((b = false ∧ left = []) ∨ (b = true ∧ ∃ j p, left[j]? = some p ∧ L115 = [mit encI gm gi m3 (left.eraseIdx j) (some p)])) := by
  rcases hC115 with ⟨rfl, h1, _⟩ | ⟨j, p, h1, rfl, h2⟩
  ·exact ⟨false, [], rfl, .inl ⟨rfl, h1⟩⟩
  exact ⟨true, _, rfl, .inr ⟨rfl, j, p, h1, by rw [h2]; rfl⟩⟩
 refine Ze ?_
 refine Zx <| DC.seq ?_
 refine Zd (fun c30 => ?_) fun c30 => ?_
 ·obtain ⟨j, p, hp, rfl⟩ : ∃ j p, left[j]? = some p ∧ L115 = [mit encI gm gi m3 (left.eraseIdx j) (some p)] := by
   rcases hcase with ⟨h1, _⟩ | ⟨_, h1⟩
   ·rw [h1] at c30; cases c30
   exact h1
  clear hC115 hcase
  obtain ⟨x, xv⟩ := p
  have hpm := hleft _ (TD hp)
  obtain rfl : xv = tl (cnV f i x) (cnE f es es.length x) (cnF f es hs hs.length x) := hent _ hpm
  have hb1 := MH f i x
  have hb2 := P3 f es es.length x
  have hb3 := P2 f es hs hs.length x
  have hx0 := (hkeys x).1 (List.mem_map.2 ⟨_, hpm, rfl⟩)
  have her := HX (a := cnV f i) (b := cnE f es es.length) (c := cnF f es hs hs.length) (ks := left.map (·.1)) (j := j) (x := x) (by rw [List.getElem?_map, hp]; rfl)
  rw [← ChangeMaps.map_eraseIdx] at her
  have hjl := (TA.1 hp).1
  have hel : (left.eraseIdx j).length = left.length - 1 := List.length_eraseIdx_of_lt hjl
  refine DC.skip <| Fin.then <| DC.block <| Zs ?_
  refine Zu (MX (p := (x, tl (cnV f i x) (cnE f es es.length x) (cnF f es hs hs.length x))) 0 rfl rfl rfl) ?_
  refine Ze ?_
  refine Zw (AD rfl Hc rfl) fun g24 => ?_
  refine Zy (At (cs' := #[.int .i64 (cnV f i x), .int .i64 (cnE f es es.length x), .int .i64 (cnF f es hs hs.length x)]) rfl rfl rfl Hj rfl (TB rfl) rfl) ?_
  refine Zx <| Zs ?_
  refine Zf Ha ?_
  refine Zl AJ ?_
  refine Zo (Bs rfl rfl rfl) ?_
  refine Zx ?_
  refine Zd (fun c32 => ?_) fun c32 => ?_
  ·have hne : cnE f es es.length x ≠ 0 := by simp at c32; omega
   have heven := IV hok hnx hL hne
   rw [← hheads] at heven
   obtain ⟨q, hq⟩ : ∃ q : Int, 2 - ((cnV f i x : Nat) : Int) + (cnE f es es.length x : Nat) - (cnF f es hs hs.length x : Nat) = 2 * q := ⟨(2 - ((cnV f i x : Nat) : Int) + (cnE f es es.length x : Nat) - (cnF f es hs hs.length x : Nat)) / 2, by omega⟩
   refine DC.region ?_
   refine Zm ?_
   refine Zf J1 ?_
   refine Zl AJ ?_
   refine Zo (Bv rfl rfl rfl (by omega)) ?_
   refine Zf Ha ?_
   refine Zl AJ ?_
   refine Zp ?_
   refine Zf J0 ?_
   refine Zl AJ ?_
   refine Zo (Bv rfl rfl rfl (by omega)) ?_
   refine Zo (O9 (q := q) rfl rfl rfl hq (by omega)) ?_
   refine Zp ?_
   refine Za ?_
   refine Seq.nil <| Fin.inBlock ?_
   refine Ag ⟨left.eraseIdx j, some (x, tl (cnV f i x) (cnE f es es.length x) (cnF f es hs hs.length x)), S + q⟩ (by dsimp only; omega) ⟨fun p hp => hleft p (List.mem_of_mem_eraseIdx hp), ?_, by dsimp only; omega, by dsimp only; rw [hel]; omega, by dsimp only; rw [hel]; omega⟩ ⟨rfl, rfl, trivial⟩ (.cons 1 rfl .nil)
   dsimp only
   have : gval (cnV f i x) (cnE f es es.length x) (cnF f es hs hs.length x) = 2 * q := by unfold gval; rw [if_pos hne]; exact hq
   omega
  refine DC.skip <| Fin.inBlock ?_
  have hne : cnE f es es.length x = 0 := by simp at c32; omega
  refine Ag ⟨left.eraseIdx j, some (x, tl (cnV f i x) (cnE f es es.length x) (cnF f es hs hs.length x)), S⟩ (by dsimp only; omega) ⟨fun p hp => hleft p (List.mem_of_mem_eraseIdx hp), ?_, by dsimp only; omega, by dsimp only; rw [hel]; omega, by dsimp only; rw [hel]; omega⟩ ⟨rfl, rfl, trivial⟩ (.cons 1 rfl .nil)
  dsimp only
  have : gval (cnV f i x) (cnE f es es.length x) (cnF f es hs hs.length x) = 0 := by unfold gval; rw [if_neg (by simp [hne])]
  omega
 refine DC.exit <| Ad <| Ad <| Ah <| Fin.then <| Zs ?_
 refine Zm ?_
 iterate 2 refine Za ?_
 refine Zx <| DC.ret ?_
 refine Fin.weak (E' := [(4, _), (5, _)]) ⟨rfl, rfl, trivial⟩ .nil ?_
 refine AL (.inl rfl) rfl rfl rfl ?_
 refine ⟨rfl, fn, S, hnx, rfl, ?_⟩
 have h0 : left = [] := by
  rcases hcase with ⟨_, h1⟩ | ⟨h1, _⟩
  ·exact h1
  rw [h1] at c30; simp at c30
 rw [h0] at hS
 simpa [gsum] using hS
end Go.Fl

namespace Go.Fl
open Go Go.Proofs
theorem MU {n : Nat} {es : List Pr} {rs : List (List Int)} {va v : Value} {w : World} (hg : PrV w va es) (hl : LsV w v rs) (hok : RotL n es rs) :
  Calls Tryz.prog 95 #[.agg #[.int .i64 n, va], v] w (Ret w [] fun r M => M = [] ∧ ∃ fn b, NxOk rs rs.length fn ∧ r = .bool b ∧ (b = true ↔ genus2 n es fn = 0)) := by
 refine Ao (args := [_, _]) (L := []) Tryz.func95 rfl Tryz.ntmps95 rfl (Own.start _ _) ?_
 refine Zs ?_
 refine Zw (Ba rfl rfl rfl) fun g2 => ?_
 refine Za ?_
 refine Zx <| Zs ?_
 refine Zu (Ay (vs := [_, _]) rfl rfl Bn Bg rfl (Ak rfl)) ?_
 refine Zm ?_
 refine Seq.rel0 rfl rfl (Ar Tc rfl rfl rfl (fun w' hw => LQ (hg.keep0 hw) (hl.keep0 hw) hok)) ?_
 rintro _ ⟨fn, S, hnx, rfl, hS⟩
 refine Zm ?_
 iterate 2 refine Ze ?_
 iterate 2 refine Za ?_
 refine Zx <| Zs ?_
 refine Zm ?_
 refine Zo (AN rfl rfl rfl) ?_
 refine Zm ?_
 refine Seq.split 15 rfl (fun k2_2 => ?_) (fun k2_2 => ?_)
 ·refine Zm ?_
  refine Zo (AN rfl rfl rfl) ?_
  refine Zt ?_
  refine Za ?_
  refine Zx <| DC.ret ?_
  refine Fin.weak (E' := [(4, _)]) ⟨rfl, trivial⟩ .nil ?_
  refine Zh ?_
  exact ⟨rfl, fn, _, hnx, rfl, by first | (simp; omega) | (simp at k2_2)⟩
 iterate 2 refine Zk ?_
 refine Zg ?_
 refine Za ?_
 refine Zx <| DC.ret ?_
 refine Fin.weak (E' := [(4, _)]) ⟨rfl, trivial⟩ .nil ?_
 refine Zh ?_
 exact ⟨rfl, fn, _, hnx, rfl, by first | (simp; omega) | (simp at k2_2)⟩
/-- Being flat, said of the lists round the vertices. -/
def FlatR (n : Nat) (es : List Pr) (ls : List (List Int)) (b : Prop) : Prop := ∃ rs fn, RotR es ls rs ∧ NxOk rs rs.length fn ∧ (b ↔ genus2 n es fn = 0)
theorem LI {pl : Bool} {n : Nat} {es : List Pr} {ls : List (List Int)} {va v u : Value} {w : World} (hg : PrV w va es) (hv : LsV w v ls) (hok : RotOk n es ls) :
  Calls Tryz.prog 57 #[.agg #[.int .i64 n, va], .agg #[.bool pl, v, u]] w (Ret w [] fun r M => M = [] ∧ ∃ b, r = .bool b ∧ FlatR n es ls (b = true)) := by
 have hN := hok.1.hi
 refine Ao (args := [_, _]) (L := []) Tryz.func57 rfl Tryz.ntmps57 rfl (Own.start _ _) ?_
 refine Zs ?_
 refine Zw (Ba rfl rfl rfl) fun g2 => ?_
 refine Zw (Ba rfl rfl rfl) fun g3 => ?_
 refine Za ?_
 refine Zx <| Zs ?_
 refine Zu (Ay (vs := [_, _]) rfl rfl Bn Bg rfl (Ak rfl)) ?_
 refine Zf CT ?_
 refine Zl Ek ?_
 refine Seq.rel rfl rfl (Ar Sx rfl rfl rfl (fun w' hw => GK (hg.keep0 hw) (hv.keep0 hw))) ?_
 intro v12 L12 hC12
 obtain ⟨_, g, rs, rfl, rfl, hR⟩ := hC12.resolve_right (fun h => h.1 hok)
 have hl := GV hok hR
 have hlen : rs.length = n := by have := hl.2.1; simp at this; omega
 rw [TC]
 refine Seq.own (M := blk g 44 (rowsV rs).toArray :: blk g3 27 #[.bool pl, v, u] :: blk g2 24 #[.int .i64 n, va] :: rowsC 3 rs) (fun w hw => hw.perm (List.Perm.cons _ (TR (l₁ := [_, _]) (l₂ := rowsC 3 rs)))) ?_
 have hshort : ∀ p, p ∈ rs → p.2.length ≤ 17592186044416 := fun p hp => by
  obtain ⟨j, hj⟩ := TF.1 hp
  have h1 := (hl.2.2 j p.2 (by rw [List.getElem?_map, hj]; rfl)).2.2
  have h2 := EY es 0 (j : Int)
  have h3 := hok.1.few
  unfold cnt outs at h1
  omega
 refine Zm ?_
 iterate 3 refine Ze ?_
 iterate 3 refine Za ?_
 refine Zx <| Zs ?_
 refine Zu (Ay (vs := [_, _]) rfl rfl Bn Bg rfl (Ak rfl)) ?_
 refine Zm ?_
 refine Seq.rel0 rfl rfl (Ar en95 rfl rfl rfl (fun w' hw => MU (hg.keep0 hw) (QK (hw.sub (L' := blk g 44 (rowsV rs).toArray :: rowsC 3 rs) (((List.Sublist.refl _).cons _).cons _ |>.cons_cons _)) hlen (by omega) hshort) hl)) ?_
 rintro _ ⟨fn, b, hnx, rfl, hb⟩
 refine Za ?_
 refine Zx <| DC.ret ?_
 refine Fin.weak (E' := [(4, _)]) ⟨rfl, trivial⟩ .nil ?_
 refine Zh ?_
 exact ⟨rfl, b, rfl, _, fn, hR, hnx, hb⟩
theorem Jo {pl : Bool} {N : Int} {es cs : List Pr} {va v u : Value} {w : World} (hg : PrV w va es) (hu : PrV w u cs) :
  Calls Tryz.prog 58 #[.agg #[.int .i64 N, va], .agg #[.bool pl, v, u]] w (Ret w [] fun r M => M = [] ∧ ∃ b, r = .bool b ∧ (b = true ↔ ∀ c, c ∈ cs → c ∈ es)) := by
 obtain ⟨B, capb, eu, _, _, _, hleb⟩ := id hu
 refine Ao (args := [_, _]) (L := []) Tryz.func58 rfl Tryz.ntmps58 rfl (Own.start _ _) ?_
 refine Zs ?_
 refine Zw (Ba rfl rfl rfl) fun g2 => ?_
 refine Zw (Ba rfl rfl rfl) fun g3 => ?_
 refine Za ?_
 refine Zx <| DC.seq <| Zs ?_
 refine Zu (Ay (vs := [_, _]) rfl rfl Bn Bg rfl (Ak rfl)) ?_
 refine Zu (Ay (vs := [_, _, _]) rfl rfl CD BV rfl (Ak rfl)) ?_
 refine Seq.rel rfl rfl (Ar Sw rfl rfl rfl (fun w' hw => EG (hg.keep0 hw) (hu.keep0 hw))) ?_
 rintro _ _ ⟨g, ns, rfl, ⟨hns, hn⟩, rfl⟩
 simp only [zs]
 refine Zn TT ?_
 refine Zm ?_
 refine Zx <| DC.block ?_
 refine DC.loop (ι := Nat) (fun i => i ≤ cs.length ∧ ∀ (j : Nat) c, j < i → cs[j]? = some c → c ∈ es)
  (fun i => [(9, .slice (some ⟨g, 0, none⟩) cs.length cs.length), (10, .int .i64 cs.length), (11, .int .i64 i)])
  (fun i => [blk g 3 (ints ns).toArray]) (fun i => cs.length - i) 0 ⟨Nat.zero_le _, fun _ _ h => absurd h (TS _)⟩ ⟨rfl, rfl, rfl, trivial⟩ (.cons 0 rfl .nil) ?_
 rintro i ⟨hi, hin⟩
 refine Zs ?_
 refine Zc ?_
 refine Zx <| DC.seq ?_
 refine Zd (fun c2 => ?_) fun c2 => ?_
 ·have hlt : i < cs.length := by simpa using c2
  obtain ⟨c, hc⟩ : ∃ c, cs[i]? = some c := ⟨_, Tz hlt⟩
  obtain ⟨x, hx⟩ : ∃ x, ns[i]? = some x := ⟨_, Tz (by omega)⟩
  have hcase := hn i c x hc hx
  refine DC.skip <| Fin.then <| DC.seq <| DC.block <| Zs ?_
  refine Zi TT AQ ?_
  refine Zu (Ai rfl rfl AJ (Bi (BQ hx))) ?_
  refine Za ?_
  refine Zx <| Zs ?_
  refine Zm ?_
  refine Zc ?_
  refine Zx ?_
  refine Zd (fun c4 => ?_) fun c4 => ?_
  ·refine Zs ?_
   refine Za ?_
   refine Zx <| DC.ret <| Ae <| Aa <| Aa <| Ae <| Aa ?_
   refine Fin.weak (E' := [(4, _)]) ⟨rfl, trivial⟩ .nil ?_
   refine Zh ?_
   refine ⟨rfl, false, rfl, ?_⟩
   simp only [Bool.false_eq_true, false_iff]
   intro h
   rcases hcase with ⟨_, h1⟩ | ⟨k, h1, _⟩
   ·exact h1 (h c (TD hc))
   simp at c4; omega
  refine DC.skip <| Fin.inBlock <| Fin.then <| DC.region ?_
  refine Zp ?_
  refine Zm ?_
  refine Seq.nil ?_
  refine Ag (i + 1) (by omega) ⟨by omega, ?_⟩ ⟨rfl, rfl, rfl, trivial⟩ (.cons 0 rfl .nil)
  intro j c' hj hc'
  rcases TE.1 hj with hj | rfl
  ·exact hin j c' hj hc'
  rw [hc] at hc'; cases hc'
  rcases hcase with ⟨h1, _⟩ | ⟨k, _, h2⟩
  ·subst h1; simp at c4
  exact TD h2
 refine DC.exit <| Ad <| Ad <| Ah <| Fin.then <| Zs ?_
 refine Za ?_
 refine Zx <| DC.ret ?_
 refine Fin.weak (E' := [(4, _)]) ⟨rfl, trivial⟩ .nil ?_
 refine Zh ?_
 have hie : i = cs.length := by simp at c2; omega
 subst hie
 refine ⟨rfl, true, rfl, ?_⟩
 simp only [true_iff]
 intro c hc
 obtain ⟨j, hj⟩ := TF.1 hc
 exact hin j c (TA.1 hj).1 hj
open Classical
/-- Which pairs of places there must be a path between. -/
def wantP (k : Int) (i j : Nat) : Bool := decide (i < j) && (decide (k ≠ 2) || (decide (i < 3) && decide (3 ≤ j)))
def cw (k : Int) (n : Nat) : Nat → Nat
 | 0 => 0
 | i + 1 => cw k n i + (List.range n).countP (wantP k i)
theorem PX (k : Int) (n : Nat) : ∀ i, cw k n i ≤ i * n
 | 0 => by simp [cw]
 | i + 1 => by
  have := PX k n i
  have h2 := List.countP_le_length (p := wantP k i) (l := List.range n)
  simp at h2
  rw [Nat.succ_mul]; unfold cw; omega
theorem FU (k : Int) (i j : Nat) : (List.range (j + 1)).countP (wantP k i) = (List.range j).countP (wantP k i) + if wantP k i j then 1 else 0 := by
 rw [List.range_succ, List.countP_append]
 cases h : wantP k i j <;> simp [h]
def JJ (m : List (Pr × Value)) (S : List Int) (i j : Nat) : Prop := ∀ x y, S[i]? = some x → S[j]? = some y → (lkM m (srt x y)).isSome = true
structure PaI where
 i : Nat
 v : Value
 pv : List Value
theorem GF {k : Int} {gm : Nat} {m : List (Pr × Value)} {cs : RL} {vb : Value} {S : List Int} {w : World} (hO : Own w (idsOf (mpc encP gm m :: slc vb 3 1 (ints S) :: rowsC 3 cs)) w (mpc encP gm m :: slc vb 3 1 (ints S) :: rowsC 3 cs)) (hm : MapR m cs)
  (hs : ∀ p, p ∈ cs → p.2.length ≤ 1000000000) (hS : S.length ≤ 6) :
  Calls Tryz.prog 128 #[.int .i64 k, vb, .map (some gm)] w (Ret w (idsOf (mpc encP gm m :: slc vb 3 1 (ints S) :: rowsC 3 cs)) fun r M => M = [] ∧ ∃ k0 A0 l0 c0 A1 l1 c1 b, r = .tuple #[.agg #[.int .i64 k0, .slice A0 l0 c0, .slice A1 l1 c1], .bool b] ∧
   (b = true ↔ (∀ i j, i < S.length → j < S.length → wantP k i j = true → JJ m S i j) ∧ cw k S.length S.length = m.length)) := by
 refine Ao (args := [_, _, _]) (L := mpc encP gm m :: slc vb 3 1 (ints S) :: rowsC 3 cs) Tryz.func128 rfl Tryz.ntmps128 rfl hO ?_
 refine DC.slcs (i := 1) (xs := S) rfl (by omega) ?_
 rintro A c rfl hA
 refine Zs ?_
 refine Zw (AD rfl Jn rfl) fun g6 => ?_
 refine Za ?_
 refine Zx <| Zs ?_
 iterate 2 refine Zm ?_
 refine Zo (AA (cs := #[_, _, _]) rfl rfl Ii rfl rfl) ?_
 refine Zw (AD rfl Jn rfl) fun g8 => ?_
 refine Zy (At (cs' := #[_, _, _]) rfl rfl rfl Cm rfl (TB rfl) rfl) ?_
 refine Zx <| DC.seq <| Zs ?_
 refine Zm ?_
 refine Zn TT ?_
 refine Zm ?_
 refine Zx <| DC.block ?_
 refine DC.own (fun w hw => AX (t := 44) (m := 1) hw) ?_
 refine DC.loop (ι := PaI) (fun j => j.i ≤ S.length ∧ j.pv.length = cw k S.length j.i ∧ ∀ a b, a < j.i → b < S.length → wantP k a b = true → JJ m S a b)
  (fun j => [(0, .int .i64 k), (1, .slice A S.length c), (2, .map (some gm)), (6, .pointer (some ⟨g6, 0, none⟩)), (8, .pointer (some ⟨g8, 0, none⟩)), (18, .slice A S.length c), (19, .int .i64 S.length), (20, .int .i64 j.i)])
  (fun j => mpc encP gm m :: slc (.slice A S.length c) 3 1 (ints S) :: slc j.v 44 1 j.pv :: blk g8 77 #[.int .i64 k, .slice A S.length c, j.v] :: blk g6 77 #[.int .i64 0, .slice none 0 0, .slice none 0 0] :: rowsC 3 cs) (fun j => S.length - j.i)
  ⟨0, .slice none 0 0, []⟩ ⟨Nat.zero_le _, rfl, fun _ _ h => absurd h (TS _)⟩ ⟨rfl, rfl, rfl, rfl, rfl, rfl, rfl, rfl, trivial⟩ (.cons 3 rfl (.cons 3 rfl (.cons 0 rfl (.cons 0 rfl (.cons 0 rfl (Pick.all _)))))) ?_
 rintro ⟨i, v, pv⟩ ⟨hi, hpv, hJ⟩
 dsimp only at hi hpv hJ ⊢
 refine Zs ?_
 refine Zc ?_
 refine Zx <| DC.seq ?_
 refine Zd (fun c3 => ?_) fun c3 => ?_
 ·have hlt : i < S.length := by simpa using c3
  obtain ⟨ad, rfl⟩ := hA (fun e => by rw [e] at hlt; simp at hlt)
  obtain ⟨x, hx⟩ : ∃ x, S[i]? = some x := ⟨_, Tz hlt⟩
  refine DC.skip <| Fin.then <| DC.seq <| DC.block <| Zs ?_
  refine Zm ?_
  refine Zo (Aj (ad' := ad.add i) rfl rfl rfl TT AQ (by omega) (by omega) rfl) ?_
  refine Zu (Ai rfl rfl AJ (BU (i := 1) rfl hx (by omega))) ?_
  iterate 2 refine Za ?_
  refine Zx <| Zs ?_
  refine Zm ?_
  refine Zn TT ?_
  refine Zm ?_
  refine Zx <| DC.block ?_
  refine DC.loop (ι := PaI) (fun j => j.i ≤ S.length ∧ j.pv.length = cw k S.length i + (List.range j.i).countP (wantP k i) ∧ ∀ b, b < j.i → wantP k i b = true → JJ m S i b)
   (fun j => [(0, .int .i64 k), (1, .slice (some ad) S.length c), (2, .map (some gm)), (6, .pointer (some ⟨g6, 0, none⟩)), (8, .pointer (some ⟨g8, 0, none⟩)), (9, .int .i64 i), (10, .int .i64 x), (18, .slice (some ad) S.length c), (19, .int .i64 S.length), (20, .int .i64 i), (25, .slice (some ad) S.length c), (26, .int .i64 S.length), (27, .int .i64 j.i)])
   (fun j => mpc encP gm m :: slc (.slice (some ad) S.length c) 3 1 (ints S) :: slc j.v 44 1 j.pv :: blk g8 77 #[.int .i64 k, .slice (some ad) S.length c, j.v] :: blk g6 77 #[.int .i64 0, .slice none 0 0, .slice none 0 0] :: rowsC 3 cs) (fun j => S.length - j.i)
   ⟨0, v, pv⟩ ⟨Nat.zero_le _, by simp [hpv], fun _ h => absurd h (TS _)⟩ ⟨rfl, rfl, rfl, rfl, rfl, rfl, rfl, rfl, rfl, rfl, rfl, rfl, rfl, trivial⟩ (Pick.all _) ?_
  rintro ⟨j, v2, pv2⟩ ⟨hj, hpv2, hJ2⟩
  dsimp only at hj hpv2 hJ2 ⊢
  refine Zs ?_
  refine Zc ?_
  refine Zx <| DC.seq ?_
  refine Zd (fun c6 => ?_) fun c6 => ?_
  ·have hjl : j < S.length := by simpa using c6
   obtain ⟨y, hy⟩ : ∃ y, S[j]? = some y := ⟨_, Tz hjl⟩
   have hb1 := PX k S.length i
   have hb2 : i * S.length ≤ 6 * 6 := Nat.mul_le_mul (by omega) (by omega)
   have hb3 := List.countP_le_length (p := wantP k i) (l := List.range j)
   rw [List.length_range] at hb3
   refine DC.skip <| Fin.then <| DC.seq <| DC.block <| Zs ?_
   refine Zm ?_
   refine Zo (Aj (ad' := ad.add j) rfl rfl rfl TT AQ (by omega) (by omega) rfl) ?_
   refine Zu (Ai rfl rfl AJ (BU (i := 1) rfl hy (by omega))) ?_
   iterate 2 refine Za ?_
   refine Zx <| DC.seq <| Zs ?_
   iterate 2 refine Zm ?_
   refine Zo (HF rfl rfl rfl) ?_
   refine Zm ?_
   refine Seq.split 35 rfl (fun k8_3 => ?_) (fun k8_3 => ?_)
   ·refine Zk ?_
    iterate 9 refine Zk ?_
    refine Zt ?_
    refine Zx ?_
    refine AI rfl ?_
    refine DC.exit <| Ad <| Ah <| Fin.then <| DC.region ?_
    refine Zp ?_
    refine Zm ?_
    refine Seq.nil ?_
    have hno : wantP k i j = false := by simp at k8_3; simp [wantP]; omega
    refine Ag ⟨j + 1, v2, pv2⟩ (by dsimp only; omega) ⟨by dsimp only; omega, by dsimp only; rw [FU, hno]; simpa using hpv2, fun b hb hw => ?_⟩ ⟨rfl, rfl, rfl, rfl, rfl, rfl, rfl, rfl, rfl, rfl, rfl, rfl, rfl, trivial⟩ (Pick.all _)
    rcases TE.1 hb with hb | rfl
    ·exact hJ2 b hb hw
    rw [hno] at hw; cases hw
   refine Zm ?_
   refine Zo (AN rfl rfl rfl) ?_
   refine Zm ?_
   refine Seq.split 38 rfl (fun k8_6 => ?_) (fun k8_6 => ?_)
   ·refine Zm ?_
    refine Zo (Cc rfl rfl rfl) ?_
    refine Zm ?_
    refine Seq.split 41 rfl (fun k8_9 => ?_) (fun k8_9 => ?_)
    ·refine Zk ?_
     refine Zk ?_
     iterate 2 refine Zt ?_
     refine Zg ?_
     refine Zx ?_
     refine AI rfl ?_
     refine DC.exit <| Ad <| Ah <| Fin.then <| DC.region ?_
     refine Zp ?_
     refine Zm ?_
     refine Seq.nil ?_
     have hno : wantP k i j = false := by simp at k8_3 k8_6 k8_9; simp [wantP, k8_6]; omega
     refine Ag ⟨j + 1, v2, pv2⟩ (by dsimp only; omega) ⟨by dsimp only; omega, by dsimp only; rw [FU, hno]; simpa using hpv2, fun b hb hw => ?_⟩ ⟨rfl, rfl, rfl, rfl, rfl, rfl, rfl, rfl, rfl, rfl, rfl, rfl, rfl, trivial⟩ (Pick.all _)
     rcases TE.1 hb with hb | rfl
     ·exact hJ2 b hb hw
     rw [hno] at hw; cases hw
    refine Zm ?_
    refine Zc ?_
    refine Zg ?_
    refine Zt ?_
    refine Zg ?_
    refine Zx ?_
    refine Zd (fun c8 => ?_) fun c8 => ?_
    ·refine DC.exit <| Ad <| Ah <| Fin.then <| DC.region ?_
     refine Zp ?_
     refine Zm ?_
     refine Seq.nil ?_
     have hno : wantP k i j = false := by simp at k8_3 k8_6 k8_9 c8; simp [wantP, k8_6]; omega
     refine Ag ⟨j + 1, v2, pv2⟩ (by dsimp only; omega) ⟨by dsimp only; omega, by dsimp only; rw [FU, hno]; simpa using hpv2, fun b hb hw => ?_⟩ ⟨rfl, rfl, rfl, rfl, rfl, rfl, rfl, rfl, rfl, rfl, rfl, rfl, rfl, trivial⟩ (Pick.all _)
     rcases TE.1 hb with hb | rfl
     ·exact hJ2 b hb hw
     rw [hno] at hw; cases hw
    refine DC.skip <| Fin.then <| DC.seq ?_
    have hyes : wantP k i j = true := by
     first
     | (simp at k8_3 k8_6 k8_9 c8; simp [wantP]; omega)
     | (simp at k8_3 k8_6; simp [wantP, k8_6]; omega)
    refine DC.region ?_
    iterate 3 refine Zm ?_
    refine Seq.gen rfl rfl (Bh PV rfl rfl rfl (Lc := mpc encP gm m :: ([slc (.slice (some ad) S.length c) 3 1 (ints S), slc v2 44 1 pv2, blk g8 77 #[.int .i64 k, .slice (some ad) S.length c, v2], blk g6 77 #[.int .i64 0, .slice none 0 0, .slice none 0 0]] ++ rowsC 3 cs)) (F := []) (by rw [List.append_nil]; exact .refl _) (fun k hk => hk) (fun w' hw => D5 hw.self hm hs)) ?_
    rintro _ _ ⟨_, ⟨rfl, A', l', c', rfl⟩, rfl⟩
    rw [List.append_nil]
    simp only [zs]
    refine Zm ?_
    iterate 2 refine Ze ?_
    iterate 2 refine Za ?_
    refine Zx <| DC.seq <| Zs ?_
    refine Zm ?_
    refine Zo (Bd rfl rfl) ?_
    refine Zx ?_
    refine Zd (fun c10 => ?_) fun c10 => ?_
    ·refine Zs ?_
     refine Zo (AA (cs := #[_, _, _]) rfl rfl Ii rfl rfl) ?_
     refine Zy (At (cs' := #[_, _, _]) rfl rfl rfl Cm rfl (TB rfl) rfl) ?_
     refine Za ?_
     refine Zx <| DC.ret <| Aa <| Ae <| Aa <| Aa <| Ae <| Ae <| Aa <| Aa <| Ae <| Aa ?_
     refine Fin.weak (E' := [(6, .pointer (some ⟨g6, 0, none⟩)), (7, .bool false)]) (L' := [blk g6 77 #[.int .i64 0, .slice none 0 0, .slice none 0 0]]) ⟨rfl, rfl, trivial⟩ (.cons 4 rfl .nil) ?_
     refine Bf (cs := #[_, _, _]) (.inl rfl) rfl rfl rfl EP Cm ?_
     refine ⟨[], fun w hw => hw.sub (TH _), rfl, _, _, _, _, _, _, _, false, rfl, ?_⟩
     simp only [Bool.false_eq_true, false_iff]
     rintro ⟨h1, _⟩
     have h2 := h1 i j hlt hjl hyes x y hx hy
     rw [h2] at c10
     simp at c10
    refine DC.skip <| Fin.then <| DC.region ?_
    refine Zf EM ?_
    refine Zl Ek ?_
    refine Zm ?_
    refine Zw (AP (cs := #[_]) rfl rfl TW BE Da rfl (by decide) (by decide) rfl rfl) fun g60 => ?_
    refine Seq.gen rfl rfl (AK rfl rfl rfl TW BE IH Da rfl (by decide) (by decide) (news := [.slice A' l' c']) (k := 1) (fun w hw => hw.perm (AO (i := 3) rfl).symm) (.inl ⟨_, _, rfl, Ak rfl⟩) rfl (fun u hu => by rw [List.mem_singleton.1 hu]; rfl) (by simp; omega)) ?_
    rintro v61 _ rfl
    simp only [List.eraseIdx_cons_succ, List.eraseIdx_cons_zero]
    refine Seq.shape (t := 44) (m := 1) (vs := pv2 ++ [.slice A' l' c']) 0 rfl ?_
    rintro ⟨A61, l61, c61, rfl⟩
    refine Zf EM ?_
    refine Zy (AE (cs' := #[_, _, _]) rfl rfl rfl Qv rfl (TB rfl) rfl) ?_
    refine Seq.nil <| Fin.inBlock <| Fin.then <| DC.region ?_
    refine Zp ?_
    refine Zm ?_
    refine Seq.nil ?_
    have hjj : JJ m S i j := fun x' y' hx' hy' => by
     rw [hx] at hx'; rw [hy] at hy'; cases hx'; cases hy'
     simpa using c10
    refine Ag ⟨j + 1, .slice A61 l61 c61, pv2 ++ [.slice A' l' c']⟩ (by dsimp only; omega) ⟨by dsimp only; omega, by dsimp only; rw [FU, hyes, List.length_append, hpv2]; simp; omega, fun b hb hw => ?_⟩ ⟨rfl, rfl, rfl, rfl, rfl, rfl, rfl, rfl, rfl, rfl, rfl, rfl, rfl, trivial⟩ (.cons 2 rfl (.cons 2 rfl (.cons 0 rfl (.cons 1 rfl (.cons 1 rfl (B8 _ _))))))
    rcases TE.1 hb with hb | rfl
    ·exact hJ2 b hb hw
    exact hjj
   iterate 6 refine Zk ?_
   iterate 2 refine Zg ?_
   refine Zx ?_
   refine AT rfl ?_
   refine DC.skip <| Fin.then <| DC.seq ?_
   have hyes : wantP k i j = true := by
    first
    | (simp at k8_3 k8_6 k8_9 c8; simp [wantP]; omega)
    | (simp at k8_3 k8_6; simp [wantP, k8_6]; omega)
   refine DC.region ?_
   iterate 3 refine Zm ?_
   refine Seq.gen rfl rfl (Bh PV rfl rfl rfl (Lc := mpc encP gm m :: ([slc (.slice (some ad) S.length c) 3 1 (ints S), slc v2 44 1 pv2, blk g8 77 #[.int .i64 k, .slice (some ad) S.length c, v2], blk g6 77 #[.int .i64 0, .slice none 0 0, .slice none 0 0]] ++ rowsC 3 cs)) (F := []) (by rw [List.append_nil]; exact .refl _) (fun k hk => hk) (fun w' hw => D5 hw.self hm hs)) ?_
   rintro _ _ ⟨_, ⟨rfl, A', l', c', rfl⟩, rfl⟩
   rw [List.append_nil]
   simp only [zs]
   refine Zm ?_
   iterate 2 refine Ze ?_
   iterate 2 refine Za ?_
   refine Zx <| DC.seq <| Zs ?_
   refine Zm ?_
   refine Zo (Bd rfl rfl) ?_
   refine Zx ?_
   refine Zd (fun c10 => ?_) fun c10 => ?_
   ·refine Zs ?_
    refine Zo (AA (cs := #[_, _, _]) rfl rfl Ii rfl rfl) ?_
    refine Zy (At (cs' := #[_, _, _]) rfl rfl rfl Cm rfl (TB rfl) rfl) ?_
    refine Za ?_
    refine Zx <| DC.ret <| Aa <| Ae <| Aa <| Aa <| Ae <| Ae <| Aa <| Aa <| Ae <| Aa ?_
    refine Fin.weak (E' := [(6, .pointer (some ⟨g6, 0, none⟩)), (7, .bool false)]) (L' := [blk g6 77 #[.int .i64 0, .slice none 0 0, .slice none 0 0]]) ⟨rfl, rfl, trivial⟩ (.cons 4 rfl .nil) ?_
    refine Bf (cs := #[_, _, _]) (.inl rfl) rfl rfl rfl EP Cm ?_
    refine ⟨[], fun w hw => hw.sub (TH _), rfl, _, _, _, _, _, _, _, false, rfl, ?_⟩
    simp only [Bool.false_eq_true, false_iff]
    rintro ⟨h1, _⟩
    have h2 := h1 i j hlt hjl hyes x y hx hy
    rw [h2] at c10
    simp at c10
   refine DC.skip <| Fin.then <| DC.region ?_
   refine Zf EM ?_
   refine Zl Ek ?_
   refine Zm ?_
   refine Zw (AP (cs := #[_]) rfl rfl TW BE Da rfl (by decide) (by decide) rfl rfl) fun g60 => ?_
   refine Seq.gen rfl rfl (AK rfl rfl rfl TW BE IH Da rfl (by decide) (by decide) (news := [.slice A' l' c']) (k := 1) (fun w hw => hw.perm (AO (i := 3) rfl).symm) (.inl ⟨_, _, rfl, Ak rfl⟩) rfl (fun u hu => by rw [List.mem_singleton.1 hu]; rfl) (by simp; omega)) ?_
   rintro v61 _ rfl
   simp only [List.eraseIdx_cons_succ, List.eraseIdx_cons_zero]
   refine Seq.shape (t := 44) (m := 1) (vs := pv2 ++ [.slice A' l' c']) 0 rfl ?_
   rintro ⟨A61, l61, c61, rfl⟩
   refine Zf EM ?_
   refine Zy (AE (cs' := #[_, _, _]) rfl rfl rfl Qv rfl (TB rfl) rfl) ?_
   refine Seq.nil <| Fin.inBlock <| Fin.then <| DC.region ?_
   refine Zp ?_
   refine Zm ?_
   refine Seq.nil ?_
   have hjj : JJ m S i j := fun x' y' hx' hy' => by
    rw [hx] at hx'; rw [hy] at hy'; cases hx'; cases hy'
    simpa using c10
   refine Ag ⟨j + 1, .slice A61 l61 c61, pv2 ++ [.slice A' l' c']⟩ (by dsimp only; omega) ⟨by dsimp only; omega, by dsimp only; rw [FU, hyes, List.length_append, hpv2]; simp; omega, fun b hb hw => ?_⟩ ⟨rfl, rfl, rfl, rfl, rfl, rfl, rfl, rfl, rfl, rfl, rfl, rfl, rfl, trivial⟩ (.cons 2 rfl (.cons 2 rfl (.cons 0 rfl (.cons 1 rfl (.cons 1 rfl (B8 _ _))))))
   rcases TE.1 hb with hb | rfl
   ·exact hJ2 b hb hw
   exact hjj
  refine DC.exit <| Ad <| Ad <| Ah <| Fin.inBlock <| Fin.then <| DC.region ?_
  refine Zp ?_
  refine Zm ?_
  refine Seq.nil ?_
  have hje : j = S.length := by simp at c6; omega
  subst hje
  refine Ag ⟨i + 1, v2, pv2⟩ (by dsimp only; omega) ⟨by dsimp only; omega, hpv2, fun a b ha hb hw => ?_⟩ ⟨rfl, rfl, rfl, rfl, rfl, rfl, rfl, rfl, trivial⟩ (Pick.all _)
  rcases TE.1 ha with ha | rfl
  ·exact hJ a b ha hb hw
  exact hJ2 b hb hw
 refine DC.exit <| Ad <| Ad <| Ah <| Fin.then <| DC.seq <| DC.seq ?_
 have hie : i = S.length := by simp at c3; omega
 subst hie
 have hb1 := PX k S.length S.length
 have hb2 : S.length * S.length ≤ 6 * 6 := Nat.mul_le_mul (by omega) (by omega)
 refine F9 (i := 2) rfl ?_
 rintro Av cv rfl hAv
 refine DC.region ?_
 refine Zf EM ?_
 refine Zl Ek ?_
 refine Zn TW ?_
 refine Zm ?_
 refine Zu (Ks 0 rfl rfl rfl Tryz.underlying205) ?_
 refine Zo (BK rfl rfl rfl) ?_
 refine Zx ?_
 refine Zd (fun c15 => ?_) fun c15 => ?_
 ·refine Zs ?_
  refine Zo (AA (cs := #[_, _, _]) rfl rfl Ii rfl rfl) ?_
  refine Zy (At (cs' := #[_, _, _]) rfl rfl rfl Cm rfl (TB rfl) rfl) ?_
  refine Za ?_
  refine Zx <| DC.ret <| Aa ?_
  refine Fin.weak (E' := [(6, .pointer (some ⟨g6, 0, none⟩)), (7, .bool false)]) (L' := [blk g6 77 #[.int .i64 0, .slice none 0 0, .slice none 0 0]]) ⟨rfl, rfl, trivial⟩ (.cons 4 rfl .nil) ?_
  refine Bf (cs := #[_, _, _]) (.inl rfl) rfl rfl rfl EP Cm ?_
  refine ⟨[], fun w hw => hw.sub (TH _), rfl, _, _, _, _, _, _, _, false, rfl, ?_⟩
  simp only [Bool.false_eq_true, false_iff]
  rintro ⟨_, h2⟩
  simp at c15
  omega
 refine DC.skip <| Fin.then <| Zs ?_
 refine Zu (Ay (vs := [_, _, _]) rfl rfl EP Cm rfl (Ak rfl)) ?_
 refine Zy (At (cs' := #[_, _, _]) rfl rfl rfl Cm rfl (TB rfl) rfl) ?_
 refine Za ?_
 refine Zx <| DC.ret ?_
 refine Fin.weak (E' := [(6, .pointer (some ⟨g6, 0, none⟩)), (7, .bool true)]) (L' := [blk g6 77 #[.int .i64 k, .slice A S.length c, .slice Av pv.length cv]]) ⟨rfl, rfl, trivial⟩ (.cons 4 rfl .nil) ?_
 refine Bf (cs := #[_, _, _]) (.inl rfl) rfl rfl rfl EP Cm ?_
 refine ⟨[], fun w hw => hw.sub (TH _), rfl, _, _, _, _, _, _, _, true, rfl, ?_⟩
 simp only [true_iff]
 exact ⟨fun i j hi hj hw => hJ i j hi hj hw, by simp at c15; omega⟩
end Go.Fl

namespace Go.Fl
open Go Go.Proofs
open Classical
theorem G3 {κ : Type} [DecidableEq κ] (m : List (κ × Value)) (q : κ) : (lkM m q).isSome = decide (q ∈ m.map (·.1)) := by
 cases h : lkM m q with
 | none => simpa using HO h
 | some v =>
  have : q ∈ m.map (·.1) := List.mem_map.2 ⟨_, G4 h, rfl⟩
  simp only [Option.isSome_some]
  exact (decide_eq_true this).symm
structure ReI where
 i : Nat
 m : List (Pr × Value)
/-- The map from the ends of the chains, of the first i. -/
structure MapE (E : List Pr) (cs : RL) (i : Nat) (m : List (Pr × Value)) : Prop where
 keys : m.map (·.1) = E.take i
 nd : (E.take i).Nodup
 ne : ∀ p, p ∈ E.take i → p.1 ≠ p.2
 row : MapR m cs
theorem MapE.next {E : List Pr} {cs : RL} {i : Nat} {m : List (Pr × Value)} (h : MapE E cs i m) {q : Pr} (hq : E[i]? = some q) (hno : q ∉ m.map (·.1)) (hne : q.1 ≠ q.2) {p : Value × List Int} (hp : p ∈ cs) : MapE E cs (i + 1) (putM q p.1 m) := by
 have hk : (putM q p.1 m).map (·.1) = m.map (·.1) ++ [q] := by
  rw [EV, G3, if_neg (by simpa using hno)]
 have ht : E.take (i + 1) = E.take i ++ [q] := by rw [List.take_add_one, hq]; rfl
 refine ⟨by rw [hk, ht, h.keys], ?_, ?_, ?_⟩
 ·rw [ht, List.nodup_append]
  refine ⟨h.nd, by simp, fun a ha b hb e => ?_⟩
  simp at hb; subst hb; subst e
  rw [← h.keys] at ha
  exact hno ha
 ·intro x hx
  rw [ht] at hx
  rcases List.mem_append.1 hx with hx | hx
  ·exact h.ne x hx
  simp at hx; subst hx; exact hne
 intro x v hv
 rw [D4] at hv
 split at hv
 ·cases hv; exact ⟨p, hp, rfl⟩
 exact h.row x v hv
theorem Ot (es : List Pr) (k : Nat) : (endsU es k).length = (selU es k).length := by simp [endsU]
theorem JR {m : List (Pr × Value)} {E : List Pr} (hlk : ∀ q, (lkM m q).isSome = decide (q ∈ E)) {S : List Int} {i j : Nat} {x y : Int} (hx : S[i]? = some x) (hy : S[j]? = some y) : JJ m S i j ↔ srt x y ∈ E := by
 unfold JJ
 constructor
 ·intro h
  have := h x y hx hy
  rw [hlk] at this
  simpa using this
 intro h x' y' hx' hy'
 rw [hx] at hx'; rw [hy] at hy'; cases hx'; cases hy'
 rw [hlk]; simpa using h
theorem kp5 {EU : List Pr} {B : List Int} {m : List (Pr × Value)} (hg : GoodE EU) (hl : B.length = 5) (hlk : ∀ q, (lkM m q).isSome = decide (q ∈ EU)) (hml : m.length = EU.length) :
  ((∀ i j, i < B.length → j < B.length → wantP 1 i j = true → JJ m B i j) ∧ cw 1 B.length B.length = m.length) ↔ KP EU B 4 := by
 have hc : cw 1 5 5 = 10 := by decide
 have key : (∀ i j, i < B.length → j < B.length → wantP 1 i j = true → JJ m B i j) ↔ ∀ q, q ∈ pairsOf B → q ∈ EU := by
  constructor
  ·intro h q hq
   obtain ⟨i, j, x, y, hij, hx, hy, rfl⟩ := C5.1 hq
   exact (JR hlk hx hy).1 (h i j (TA.1 hx).1 (TA.1 hy).1 (by simp [wantP, hij]))
  intro h i j hi hj hw
  obtain ⟨x, hx⟩ : ∃ x, B[i]? = some x := ⟨_, Tz hi⟩
  obtain ⟨y, hy⟩ : ∃ y, B[j]? = some y := ⟨_, Tz hj⟩
  refine (JR hlk hx hy).2 (h _ (C5.2 ⟨i, j, x, y, ?_, hx, hy, rfl⟩))
  simp [wantP] at hw
  exact hw
 rw [key, hl, hc, hml]
 unfold KP
 constructor
 ·rintro ⟨h1, h2⟩
  exact ⟨hg, .inl ⟨hl, rfl, h1, h2.symm⟩⟩
 rintro ⟨_, ⟨_, _, h1, h2⟩ | ⟨_, h, _⟩⟩
 ·exact ⟨h1, h2.symm⟩
 omega
theorem kp33 {EU : List Pr} {B : List Int} {m : List (Pr × Value)} (hg : GoodE EU) (hl : B.length = 6) (hlk : ∀ q, (lkM m q).isSome = decide (q ∈ EU)) (hml : m.length = EU.length) :
  ((∀ i j, i < (sidesOf EU B).length → j < (sidesOf EU B).length → wantP 2 i j = true → JJ m (sidesOf EU B) i j) ∧ cw 2 (sidesOf EU B).length (sidesOf EU B).length = m.length) ↔ KP EU B 3 := by
 have hc : cw 2 6 6 = 9 := by decide
 have hsl : (sidesOf EU B).length = 6 := (Fd EU B).length_eq.trans hl
 have key : (∀ i j, i < (sidesOf EU B).length → j < (sidesOf EU B).length → wantP 2 i j = true → JJ m (sidesOf EU B) i j) ↔ ∀ q, q ∈ crossOf (sidesOf EU B) → q ∈ EU := by
  constructor
  ·intro h q hq
   obtain ⟨i, j, x, y, hi, hj, hx, hy, rfl⟩ := Dy.1 hq
   exact (JR hlk hx hy).1 (h i j (TA.1 hx).1 (TA.1 hy).1 (by simp [wantP, hi, hj]; omega))
  intro h i j hi hj hw
  obtain ⟨x, hx⟩ : ∃ x, (sidesOf EU B)[i]? = some x := ⟨_, Tz hi⟩
  obtain ⟨y, hy⟩ : ∃ y, (sidesOf EU B)[j]? = some y := ⟨_, Tz hj⟩
  simp [wantP] at hw
  exact (JR hlk hx hy).2 (h _ (Dy.2 ⟨i, j, x, y, hw.2.1, hw.2.2, hx, hy, rfl⟩))
 rw [key, hsl, hc, hml]
 unfold KP
 constructor
 ·rintro ⟨h1, h2⟩
  exact ⟨hg, .inr ⟨hl, rfl, h1, h2.symm⟩⟩
 rintro ⟨_, ⟨_, h, _⟩ | ⟨_, _, h1, h2⟩⟩
 ·omega
 exact ⟨h1, h2.symm⟩
theorem GR {n : Nat} {es : List Pr} {va : Value} {w : World} (hg : PrV w va es) (hV : Vld n es) :
  Calls Tryz.prog 98 #[.agg #[.int .i64 n, va]] w (Ret w [] fun r M => M = [] ∧ ∃ k0 A0 l0 c0 A1 l1 c1 b, r = .tuple #[.agg #[.int .i64 k0, .slice A0 l0 c0, .slice A1 l1 c1], .bool b, .int .i64 0] ∧ (b = true ↔ KuraOk n es)) := by
 have hg0 := hg
 obtain ⟨A, cap, rfl, hr, hlc, hcm, hle⟩ := hg
 have hfew := hV.few
 have hno : ∀ {L : List Chunk} {w' : World}, Own w [] w' L → Own w [] w' [] := fun hw => hw.sub (TH _)
 refine Ao (args := [_]) (L := []) Tryz.func98 rfl Tryz.ntmps98 rfl (Own.start _ _) ?_
 refine Zs ?_
 refine Zw (Ba rfl rfl rfl) fun g1 => ?_
 refine Zw (AD rfl Jn rfl) fun g2 => ?_
 iterate 2 refine Za ?_
 refine Zx <| Zs ?_
 refine Zu (Ay (vs := [_, _]) rfl rfl Bn Bg rfl (Ak rfl)) ?_
 refine Seq.rel rfl rfl (Ar Rp rfl rfl rfl (fun w' hw => Jm n es A cap w' (hr.keep0 hw) (by omega))) ?_
 intro v23 L23 hC23
 obtain ⟨_, M, hP, rfl, rfl⟩ := hC23.resolve_left (fun h => h.1 hV)
 simp only [adjL, List.cons_append, List.nil_append]
 refine Zm ?_
 iterate 2 refine Ze ?_
 iterate 2 refine Za ?_
 refine Zx <| DC.seq <| Zs ?_
 refine Zm ?_
 refine Zo (BK rfl rfl rfl) ?_
 refine Zx ?_
 refine Zd (fun c2 => ?_) fun c2 => ?_
 ·refine Zs ?_
  refine Zo (AA (cs := #[_, _, _]) rfl rfl Ii rfl rfl) ?_
  refine Zm ?_
  refine Zy (At (cs' := #[_, _, _]) rfl rfl rfl Cm rfl (TB rfl) rfl) ?_
  iterate 2 refine Za ?_
  refine Zx <| DC.ret <| Aa ?_
  refine BP (cs := #[_, _, _]) (.inl rfl) rfl rfl rfl rfl EP Cm ?_
  simp at c2
 refine DC.skip <| Fin.then <| Zs ?_
 refine Zm ?_
 refine Seq.rel rfl rfl (Ar S8 rfl rfl rfl (fun w' hw => HS (Ki hw (.cons 0 rfl (.cons 0 rfl (.cons 0 rfl (.cons 0 rfl (.cons 0 rfl .nil))))) hP))) ?_
 intro v32 L32 hC32
 obtain ⟨A', l', c', d, rfl, hD32⟩ : ∃ A' l' c' d, v32 = .tuple #[.slice A' l' c', .int .i64 (d : Nat)] ∧
   ((l' = (brV es n).length ∧ L32 = [slc (.slice A' (brV es n).length c') 3 1 (ints (brV es n))] ∧ ∀ u, u ∈ brV es n → degV es u = d) ∨ (l' = 0 ∧ ¬ ∃ d, ∀ u, u ∈ brV es n → degV es u = d)) := by
  rcases hC32 with ⟨A', c', d, h1, h2, h3⟩ | ⟨h1, _, h3⟩
  ·exact ⟨A', _, c', d, h1, .inl ⟨rfl, h2, h3⟩⟩
  exact ⟨none, 0, 0, 0, h1, .inr ⟨rfl, h3⟩⟩
 clear hC32
 refine Seq.own (M := blk g2 77 #[.int .i64 0, .slice none 0 0, .slice none 0 0] :: blk g1 24 #[.int .i64 n, .slice A es.length cap] :: L32) (fun w hw => (hw.sub (L' := L32 ++ [blk g2 77 #[.int .i64 0, .slice none 0 0, .slice none 0 0], blk g1 24 #[.int .i64 n, .slice A es.length cap]]) ((List.Sublist.refl L32).append (((((List.Sublist.refl _).cons _).cons _).cons _).cons _ |>.cons _))).perm (TR (l₁ := [_, _]))) ?_
 refine Zm ?_
 iterate 2 refine Ze ?_
 iterate 2 refine Za ?_
 refine Zx <| DC.seq ?_
 refine DC.cut (ι := Bool) (fun b => b = true ↔ ¬ ((l' = 5 ∧ d = 4) ∨ (l' = 6 ∧ d = 3)))
  (fun b => [(1, .pointer (some ⟨g1, 0, none⟩)), (2, .pointer (some ⟨g2, 0, none⟩)), (7, .slice A' l' c'), (8, .int .i64 d), (52, .bool b)])
  (fun _ => blk g2 77 #[.int .i64 0, .slice none 0 0, .slice none 0 0] :: blk g1 24 #[.int .i64 n, .slice A es.length cap] :: L32) ?first5 ?rest5
 case first5 =>
  refine DC.region ?_
  refine Zm ?_
  refine Zn TT ?_
  refine Zo (AN rfl rfl rfl) ?_
  refine Zm ?_
  refine Seq.split 38 rfl (fun k5_3 => ?_) (fun k5_3 => ?_)
  ·refine Zm ?_
   refine Zo (AN rfl rfl rfl) ?_
   refine Zt ?_
   refine Zo (Bd rfl rfl) ?_
   refine Zm ?_
   refine Seq.split 43 rfl (fun k5_8 => ?_) (fun k5_8 => ?_)
   ·refine Zm ?_
    refine Zn TT ?_
    refine Zo (AN rfl rfl rfl) ?_
    refine Zm ?_
    refine Seq.split 47 rfl (fun k5_12 => ?_) (fun k5_12 => ?_)
    ·refine Zm ?_
     refine Zo (AN rfl rfl rfl) ?_
     refine Zt ?_
     refine Zo (Bd rfl rfl) ?_
     refine Zt ?_
     refine Seq.nil ?_
     refine AG _ ?_ ⟨rfl, rfl, rfl, rfl, rfl, trivial⟩ (Pick.all _)
     simp at *
     omega
    iterate 2 refine Zk ?_
    refine Zg ?_
    refine Zo (Bd rfl rfl) ?_
    refine Zt ?_
    refine Seq.nil ?_
    refine AG _ ?_ ⟨rfl, rfl, rfl, rfl, rfl, trivial⟩ (Pick.all _)
    simp at *
    omega
   iterate 8 refine Zk ?_
   refine Zg ?_
   refine Seq.nil ?_
   refine AG _ ?_ ⟨rfl, rfl, rfl, rfl, rfl, trivial⟩ (Pick.all _)
   simp at *
   omega
  iterate 2 refine Zk ?_
  refine Zg ?_
  refine Zo (Bd rfl rfl) ?_
  iterate 2 refine Zm ?_
  refine Zn TT ?_
  refine Zo (AN rfl rfl rfl) ?_
  refine Zm ?_
  refine Seq.split 47 rfl (fun k5_12 => ?_) (fun k5_12 => ?_)
  ·refine Zm ?_
   refine Zo (AN rfl rfl rfl) ?_
   refine Zt ?_
   refine Zo (Bd rfl rfl) ?_
   refine Zt ?_
   refine Seq.nil ?_
   refine AG _ ?_ ⟨rfl, rfl, rfl, rfl, rfl, trivial⟩ (Pick.all _)
   simp at *
   omega
  iterate 2 refine Zk ?_
  refine Zg ?_
  refine Zo (Bd rfl rfl) ?_
  refine Zt ?_
  refine Seq.nil ?_
  refine AG _ ?_ ⟨rfl, rfl, rfl, rfl, rfl, trivial⟩ (Pick.all _)
  simp at *
  omega
 rintro b5 hb5
 refine Zd (fun c5 => ?_) fun c5 => ?_
 ·refine Zs ?_
  refine Zo (AA (cs := #[_, _, _]) rfl rfl Ii rfl rfl) ?_
  refine Zy (At (cs' := #[_, _, _]) rfl rfl rfl Cm rfl (TB rfl) rfl) ?_
  iterate 2 refine Za ?_
  refine Zx <| DC.ret <| Aa ?_
  refine Fin.weak (E' := [(2, .pointer (some ⟨g2, 0, none⟩)), (3, .bool false), (4, .int .i64 0)]) (L' := [blk g2 77 #[.int .i64 0, .slice none 0 0, .slice none 0 0]]) ⟨rfl, rfl, rfl, trivial⟩ (.cons 0 rfl .nil) ?_
  refine BP (cs := #[_, _, _]) (.inl rfl) rfl rfl rfl rfl EP Cm ?_
  refine ⟨[], fun w hw => hw.sub (TH _), rfl, _, _, _, _, _, _, _, false, rfl, ?_⟩
  simp only [Bool.false_eq_true, false_iff]
  rintro ⟨d', hd', hK⟩
  have h5 := hb5.1 c5
  rcases hD32 with ⟨hl', _, hd⟩ | ⟨_, hno2⟩
  ·have hdd : brV es n ≠ [] → d = d' := fun hne => by
    obtain ⟨u, hu⟩ := List.exists_mem_of_ne_nil _ hne
    rw [← hd u hu, hd' u hu]
   rcases hK.2 with ⟨k1, k2, _⟩ | ⟨k1, k2, _⟩
   ·have := hdd (fun e => by rw [e] at k1; simp at k1)
    exact h5 (.inl ⟨by omega, by omega⟩)
   have := hdd (fun e => by rw [e] at k1; simp at k1)
   exact h5 (.inr ⟨by omega, by omega⟩)
  exact hno2 ⟨d', hd'⟩
 refine DC.skip <| Fin.then <| DC.seq ?_
 have hld : (l' = 5 ∧ d = 4) ∨ (l' = 6 ∧ d = 3) := by
  apply Classical.byContradiction
  intro h
  rw [hb5.2 h] at c5; cases c5
 obtain ⟨rfl, rfl, hd⟩ := hD32.resolve_right (fun h => by have := h.1; omega)
 refine DC.region ?_
 refine Zu (Ay (vs := [_, _]) rfl rfl Bn Bg rfl (Ak rfl)) ?_
 refine Seq.rel rfl rfl (Ar S7 rfl rfl rfl (fun w' hw => Kn (hg0.keep0 hw) hV)) ?_
 rintro _ _ ⟨v9, cs, rfl, hch, rfl⟩
 refine Seq.own (M := slc v9 44 1 (rowsV cs) :: blk g2 77 #[.int .i64 0, .slice none 0 0, .slice none 0 0] :: blk g1 24 #[.int .i64 n, .slice A es.length cap] :: slc (.slice A' (brV es n).length c') 3 1 (ints (brV es n)) :: rowsC 3 cs) (fun w hw => hw.perm (List.Perm.cons _ (TR (l₁ := [_, _, _]) (l₂ := rowsC 3 cs)))) ?_
 refine Zm ?_
 iterate 2 refine Ze ?_
 iterate 2 refine Za ?_
 refine Zx <| Zs ?_
 refine Seq.rel rfl rfl (De (enc := encP) rfl) ?_
 rintro _ _ ⟨gm, rfl, rfl⟩
 simp only [zs]
 refine Za ?_
 refine Zx <| DC.seq <| DC.seq ?_
 obtain ⟨EU, hEU⟩ : ∃ EU, EU = endsU es es.length := ⟨_, rfl⟩
 have hEl : EU.length = cs.length := by rw [hEU, Ot, hch.len]
 have hcsl : cs.length ≤ es.length := by rw [hch.len]; exact Ex _
 have hrows : ∀ p, p ∈ cs → p.2.length ≤ 1000000000 := fun p hp => by
  obtain ⟨j, hj⟩ := TF.1 hp
  obtain ⟨e, he⟩ : ∃ e, (selU es es.length)[j]? = some e := ⟨_, Tz (by rw [← hch.len]; exact (TA.1 hj).1)⟩
  have := (hch.at' j e p he hj).2.2
  omega
 refine F9 (i := 1) (v := v9) rfl ?_
 rintro A9 c9 rfl hA9
 rw [rowsV_length]
 refine DC.region ?_
 refine Zm ?_
 refine Zn TW ?_
 refine Zm ?_
 refine Zx <| DC.block ?_
 refine DC.loop (ι := ReI) (fun j => j.i ≤ cs.length ∧ MapE EU cs j.i j.m)
  (fun j => [(2, .pointer (some ⟨g2, 0, none⟩)), (7, .slice A' (brV es n).length c'), (8, .int .i64 d), (11, .map (some gm)), (60, .slice A9 cs.length c9), (61, .int .i64 cs.length), (62, .int .i64 j.i)])
  (fun j => mpc encP gm j.m :: slc (.slice A9 cs.length c9) 44 1 (rowsV cs) :: blk g2 77 #[.int .i64 0, .slice none 0 0, .slice none 0 0] :: slc (.slice A' (brV es n).length c') 3 1 (ints (brV es n)) :: rowsC 3 cs) (fun j => cs.length - j.i) ⟨0, []⟩
  ⟨Nat.zero_le _, rfl, by simp, by simp, fun _ _ h => by cases h⟩ ⟨rfl, rfl, rfl, rfl, rfl, rfl, rfl, trivial⟩ (.cons 0 rfl (.cons 0 rfl (.cons 0 rfl (.cons 1 rfl (B8 _ _))))) ?_
 rintro ⟨i, m⟩ ⟨hi, hmE⟩
 dsimp only at hi hmE ⊢
 refine Zs ?_
 refine Zc ?_
 refine Zx <| DC.seq ?_
 refine Zd (fun c10 => ?_) fun c10 => ?_
 ·have hlt : i < cs.length := by simpa using c10
  obtain ⟨p, hp⟩ : ∃ p, cs[i]? = some p := ⟨_, Tz hlt⟩
  obtain ⟨e, he⟩ : ∃ e, (selU es es.length)[i]? = some e := ⟨_, Tz (by rw [← hch.len]; exact hlt)⟩
  obtain ⟨⟨p0, q0, hp0, hq0, hw1, hw2⟩, hpl, hpu⟩ := hch.at' i e p he hp
  have hEUi : EU[i]? = some (srt (endA es e) (endB es e)) := by rw [hEU]; unfold endsU; rw [List.getElem?_map, he]; rfl
  obtain ⟨ad9, rfl⟩ := hA9 (fun e => by have := congrArg List.length e; simp at this; rw [this] at hlt; simp at hlt)
  refine DC.skip <| Fin.then <| DC.seq <| DC.block <| Zs ?_
  refine Zo (Aj (ad' := ad9.add i) rfl rfl rfl TW BE (by omega) (by omega) rfl) ?_
  refine Zu (Ai rfl rfl BA (Lk (i := 1) (q := p.1) rfl (by simp [rowsV, hp]))) ?_
  refine Za ?_
  refine Zx <| DC.seq ?_
  refine DC.slcs (v := p.1) (i := i + 4) (xs := p.2) (t := 3) (by simp [rowsC, hp]) (by omega) ?_
  rintro A3 c3 hp1 hA3
  obtain ⟨ad3, rfl⟩ := hA3 (fun e => by rw [e] at hp0; simp at hp0)
  have hrow : ∀ {F : List Chunk} (a b c d : Chunk), (a :: b :: c :: d :: rowsC 3 cs)[i + 4]? = some (slc (.slice (some ad3) p.2.length c3) 3 1 (ints p.2)) := fun a b c d => by rw [← hp1]; simp [rowsC, hp]
  rw [hp1]
  refine AF (cl := [.q, .q, .v, .q, .q, .q, .q, .q, .v, .q, .n, .g]) (A := [0, 1, 3, 0, 0, 16, 48, 120, 248, 511, 0, 2047]) (order := [0, 1, 2, 3, 4, 5, 6, 7, 8, 9, 10, 11]) [] mixed (by kernel_rfl) (fun w hw => hw.pick .nil) ?_
  refine Ym ?_
  refine Yo rfl (Aj (ad' := ad3.add 0) rfl rfl rfl TT AQ (by omega) (by omega) rfl) ?_
  refine Am rfl rfl rfl rfl (Ai rfl rfl AJ (BU (t := 3) (i := i + 4) (l := p.2.length) (c := c3) (hrow (F := []) _ _ _ _) hp0 (by omega))) ?_
  iterate 2 refine Ym ?_
  refine Yo rfl (CC rfl rfl TT) ?_
  refine Yo rfl (Bv rfl rfl rfl (by omega)) ?_
  refine Yo rfl (Aj (ad' := ad3.add (p.2.length - 1)) rfl rfl rfl TT AQ (by omega) (by omega) (by rw [show ((p.2.length : Int) - 1).toNat = p.2.length - 1 by omega])) ?_
  refine Am rfl rfl rfl rfl (Ai rfl rfl AJ (BU (t := 3) (i := i + 4) (l := p.2.length) (c := c3) (hrow (F := []) _ _ _ _) hq0 (by omega))) ?_
  refine Yo rfl (JK (cs := #[.int .i64 p0, .int .i64 q0]) rfl rfl Tryz.underlying35 AQ LW rfl rfl rfl) ?_
  refine BD rfl rfl rfl rfl (AD rfl LW rfl) fun g14 => ?_
  refine Flow.sto (V := (blk g14 35 #[.int .i64 0, .int .i64 0] :: mpc encP gm m :: slc (.slice (some ad9) cs.length c9) 44 1 (rowsV cs) :: blk g2 77 #[.int .i64 0, .slice none 0 0, .slice none 0 0] :: slc (.slice A' (brV es n).length c') 3 1 (ints (brV es n)) :: rowsC 3 cs)) rfl rfl rfl rfl rfl (At (cs' := #[_, _]) rfl rfl rfl Kw rfl (TB rfl) rfl) (fun w hw => hw.pick (.nil)) ?_
  refine Flow.end rfl ?_
  simp only [zq, zr]
  refine Fin.then <| DC.seq <| Zs ?_
  refine Zm ?_
  refine Zu (Ay (vs := [_, _]) rfl rfl R1 Kw rfl (Ak rfl)) ?_
  refine Zu (C3 (k := (p0, q0)) (ok := true) 1 rfl Gs rfl rfl rfl Tryz.underlying205 Da rfl) ?_
  refine Zm ?_
  iterate 2 refine Ze ?_
  iterate 2 refine Za ?_
  refine Zx <| Zs ?_
  iterate 2 refine Zm ?_
  refine Seq.split 83 rfl (fun k14_1 => ?_) (fun k14_1 => ?_)
  ·refine Zk ?_
   iterate 4 refine Zk ?_
   refine Zt ?_
   refine Zx ?_
   refine AI rfl ?_
   refine Zs ?_
   refine Zo (AA (cs := #[_, _, _]) rfl rfl Ii rfl rfl) ?_
   refine Zy (At (cs' := #[_, _, _]) rfl rfl rfl Cm rfl (TB rfl) rfl) ?_
   iterate 2 refine Za ?_
   refine Zx <| DC.ret <| Aa <| Ae <| Aa <| Aa <| Ae <| Aa ?_
   refine Fin.weak (E' := [(2, .pointer (some ⟨g2, 0, none⟩)), (3, .bool false), (4, .int .i64 0)]) (L' := [blk g2 77 #[.int .i64 0, .slice none 0 0, .slice none 0 0]]) ⟨rfl, rfl, rfl, trivial⟩ (.cons 3 rfl .nil) ?_
   refine BP (cs := #[_, _, _]) (.inl rfl) rfl rfl rfl rfl EP Cm ?_
   refine ⟨[], fun w hw => hw.sub (TH _), rfl, _, _, _, _, _, _, _, false, rfl, ?_⟩
   simp only [Bool.false_eq_true, false_iff]
   rintro ⟨d', hd', hK, _⟩
   rw [← hEU] at hK
   have hin : (p0, q0) ∈ m.map (·.1) := by rw [G3] at k14_1; simpa using k14_1
   rw [hmE.keys] at hin
   by_cases hab : endA es e = endB es e
   ·exact hK.2 _ (TD hEUi) (by unfold srt; simp only; omega)
   obtain ⟨e1, e2⟩ := hw2 hab
   have hpq : (p0, q0) = srt (endA es e) (endB es e) := by unfold srt; rw [e1, e2]
   rw [hpq] at hin
   obtain ⟨j, hj⟩ := TF.1 hin
   rw [List.getElem?_take] at hj
   split at hj
   ·rename_i hji
    have := (List.getElem?_inj (by have := (TA.1 hj).1; exact this) hK.1).1 (hj.trans hEUi.symm)
    omega
   cases hj
  refine Zo (DI (ad' := ⟨g14, 0, none⟩) rfl rfl rfl Tryz.underlying35 AQ (by omega) (by omega) (AC _ _)) ?_
  refine Zl AJ ?_
  refine Zo (DI (ad' := ⟨g14, 1, none⟩) rfl rfl rfl Tryz.underlying35 AQ (by omega) (by omega) (AC _ _)) ?_
  refine Zl AJ ?_
  refine Zo (AN rfl rfl rfl) ?_
  refine Zg ?_
  refine Zx ?_
  refine Zd (fun c14 => ?_) fun c14 => ?_
  ·refine Zs ?_
   refine Zo (AA (cs := #[_, _, _]) rfl rfl Ii rfl rfl) ?_
   refine Zy (At (cs' := #[_, _, _]) rfl rfl rfl Cm rfl (TB rfl) rfl) ?_
   iterate 2 refine Za ?_
   refine Zx <| DC.ret <| Aa <| Ae <| Aa <| Aa <| Ae <| Aa ?_
   refine Fin.weak (E' := [(2, .pointer (some ⟨g2, 0, none⟩)), (3, .bool false), (4, .int .i64 0)]) (L' := [blk g2 77 #[.int .i64 0, .slice none 0 0, .slice none 0 0]]) ⟨rfl, rfl, rfl, trivial⟩ (.cons 3 rfl .nil) ?_
   refine BP (cs := #[_, _, _]) (.inl rfl) rfl rfl rfl rfl EP Cm ?_
   refine ⟨[], fun w hw => hw.sub (TH _), rfl, _, _, _, _, _, _, _, false, rfl, ?_⟩
   simp only [Bool.false_eq_true, false_iff]
   rintro ⟨d', hd', hK, _⟩
   rw [← hEU] at hK
   have hpq : p0 = q0 := by simpa using c14
   refine hK.2 _ (TD hEUi) ?_
   by_cases hab : endA es e = endB es e
   ·unfold srt; simp only; omega
   obtain ⟨e1, e2⟩ := hw2 hab
   unfold srt; simp only; omega
  refine DC.skip <| Fin.then ?_
  have hne : p0 ≠ q0 := by simpa using c14
  have hab : endA es e ≠ endB es e := fun h => hne (hw1 h)
  obtain ⟨e1, e2⟩ := hw2 hab
  have hpq : (p0, q0) = srt (endA es e) (endB es e) := by unfold srt; rw [e1, e2]
  have hnin : (p0, q0) ∉ m.map (·.1) := by rw [G3] at k14_1; simpa using k14_1
  refine DC.region ?_
  refine Zm ?_
  refine Zu (Ay (vs := [_, _]) rfl rfl R1 Kw rfl (Ak rfl)) ?_
  refine Zm ?_
  refine Zy (BX (k := (p0, q0)) 1 rfl Gs rfl rfl rfl rfl Tryz.underlying205 rfl) ?_
  refine Seq.nil <| Fin.inBlock <| Fin.then <| DC.region ?_
  refine Zp ?_
  refine Zm ?_
  refine Seq.nil ?_
  refine Ag ⟨i + 1, putM (p0, q0) (.slice (some ad3) p.2.length c3) m⟩ (by dsimp only; omega) ⟨by dsimp only; omega, ?_⟩ ⟨rfl, rfl, rfl, rfl, rfl, rfl, rfl, trivial⟩ (B8 _ _)
  dsimp only
  rw [← hp1]
  exact hmE.next (by rw [hpq]; exact hEUi) hnin hne (TD hp)
 refine DC.exit <| Ad <| Ad <| Ah <| Fin.then <| DC.seq <| DC.seq ?_
 have hie : i = cs.length := by simp at c10; omega
 subst hie
 have hke : m.map (·.1) = EU := by rw [hmE.keys, ← hEl, List.take_length]
 have hgood : GoodE EU := by
  have h1 := hmE.nd
  have h2 := hmE.ne
  rw [← hEl, List.take_length] at h1 h2
  exact ⟨h1, h2⟩
 have hml : m.length = EU.length := by rw [← hke, List.length_map]
 have hlk : ∀ q, (lkM m q).isSome = decide (q ∈ EU) := fun q => by rw [G3, hke]; congr
 have hiff : KuraOk n es ↔ KP EU (brV es n) d := by
  rw [hEU]
  constructor
  ·rintro ⟨d', hd', hK⟩
   have hne : brV es n ≠ [] := fun e => by rw [e] at hld; simp at hld
   obtain ⟨u, hu⟩ := List.exists_mem_of_ne_nil _ hne
   have : d = d' := by rw [← hd u hu, hd' u hu]
   rw [this]; exact hK
  intro h; exact ⟨d, hd, h⟩
 refine DC.own (M := mpc encP gm m :: slc (.slice A' (brV es n).length c') 3 1 (ints (brV es n)) :: (rowsC 3 cs ++ [blk g2 77 #[.int .i64 0, .slice none 0 0, .slice none 0 0]])) (fun w hw => (hw.sub (L' := mpc encP gm m :: blk g2 77 #[.int .i64 0, .slice none 0 0, .slice none 0 0] :: slc (.slice A' (brV es n).length c') 3 1 (ints (brV es n)) :: rowsC 3 cs) ((List.Sublist.refl _).cons _ |>.cons_cons _)).perm (List.Perm.cons _ (TR (l₁ := slc (.slice A' (brV es n).length c') 3 1 (ints (brV es n)) :: rowsC 3 cs) (l₂ := [blk g2 77 #[.int .i64 0, .slice none 0 0, .slice none 0 0]])))) ?_
 refine DC.region ?_
 refine Zm ?_
 refine Zo (AN rfl rfl rfl) ?_
 refine Zx ?_
 refine Zd (fun c18 => ?_) fun c18 => ?_
 ·refine Zs ?_
  iterate 2 refine Zm ?_
  refine Seq.gen rfl rfl (Bh Ro rfl rfl rfl (Lc := mpc encP gm m :: slc (.slice A' (brV es n).length c') 3 1 (ints (brV es n)) :: rowsC 3 cs) (F := [blk g2 77 #[.int .i64 0, .slice none 0 0, .slice none 0 0]]) (.refl _) (fun k hk => hk) (fun w' hw => GF (hw.sub (L' := mpc encP gm m :: slc (.slice A' (brV es n).length c') 3 1 (ints (brV es n)) :: rowsC 3 cs) (List.sublist_append_left _ _)).self hmE.row hrows (by omega))) ?_
  rintro _ _ ⟨_, ⟨rfl, k0, A0, l0, c0, A1, l1, c1, bb, rfl, hbb⟩, rfl⟩
  simp only [List.nil_append]
  refine Zm ?_
  iterate 2 refine Ze ?_
  refine Zw (AD rfl Jn rfl) fun g17 => ?_
  refine Zy (At (cs' := #[_, _, _]) rfl rfl rfl Cm rfl (TB rfl) rfl) ?_
  refine Za ?_
  refine Zx <| Zs ?_
  refine Zu (Ay (vs := [_, _, _]) rfl rfl EP Cm rfl (Ak rfl)) ?_
  refine Zm ?_
  refine Zy (At (cs' := #[_, _, _]) rfl rfl rfl Cm rfl (TB rfl) rfl) ?_
  iterate 2 refine Za ?_
  refine Zx <| DC.ret <| Aa ?_
  refine BP (cs := #[_, _, _]) (.inl rfl) rfl rfl rfl rfl EP Cm ?_
  refine ⟨[], fun w hw => hw.sub (TH _), rfl, _, _, _, _, _, _, _, bb, rfl, ?_⟩
  have hd4 : d = 4 := by simp at c18; omega
  rw [hbb, hiff, hd4]
  exact kp5 hgood (by omega) hlk hml
 refine DC.skip <| Fin.then <| Zs ?_
 iterate 2 refine Zm ?_
 refine Seq.gen rfl rfl (Bh S6 rfl rfl rfl (Lc := mpc encP gm m :: slc (.slice A' (brV es n).length c') 3 1 (ints (brV es n)) :: rowsC 3 cs) (F := [blk g2 77 #[.int .i64 0, .slice none 0 0, .slice none 0 0]]) (.refl _) (fun k hk => hk) (fun w' hw => KF (E := EU) (hw.sub (L' := mpc encP gm m :: slc (.slice A' (brV es n).length c') 3 1 (ints (brV es n)) :: rowsC 3 cs) (List.sublist_append_left _ _)).self hmE.row hrows (by omega) hlk)) ?_
 rintro vs _ ⟨_, rfl, rfl⟩
 have hsl : (sidesOf EU (brV es n)).length = (brV es n).length := (Fd _ _).length_eq
 refine Zm ?_
 refine Seq.gen rfl rfl (Bh Ro rfl rfl rfl (Lc := mpc encP gm m :: slc vs 3 1 (ints (sidesOf EU (brV es n))) :: rowsC 3 cs) (F := [blk g2 77 #[.int .i64 0, .slice none 0 0, .slice none 0 0]]) (.refl _) (fun k hk => hk) (fun w' hw => GF (hw.sub (L' := mpc encP gm m :: slc vs 3 1 (ints (sidesOf EU (brV es n))) :: rowsC 3 cs) (List.sublist_append_left _ _)).self hmE.row hrows (by omega))) ?_
 rintro _ _ ⟨_, ⟨rfl, k0, A0, l0, c0, A1, l1, c1, bb, rfl, hbb⟩, rfl⟩
 simp only [List.nil_append]
 refine Zm ?_
 iterate 2 refine Ze ?_
 refine Zw (AD rfl Jn rfl) fun g19 => ?_
 refine Zy (At (cs' := #[_, _, _]) rfl rfl rfl Cm rfl (TB rfl) rfl) ?_
 refine Za ?_
 refine Zx <| Zs ?_
 refine Zu (Ay (vs := [_, _, _]) rfl rfl EP Cm rfl (Ak rfl)) ?_
 refine Zm ?_
 refine Zy (At (cs' := #[_, _, _]) rfl rfl rfl Cm rfl (TB rfl) rfl) ?_
 iterate 2 refine Za ?_
 refine Zx <| DC.ret ?_
 refine BP (cs := #[_, _, _]) (.inl rfl) rfl rfl rfl rfl EP Cm ?_
 refine ⟨[], fun w hw => hw.sub (TH _), rfl, _, _, _, _, _, _, _, bb, rfl, ?_⟩
 have hd3 : d = 3 := by simp at c18; omega
 rw [hbb, hiff, hd3]
 exact kp33 hgood (by omega) hlk hml
end Go.Fl

namespace Go.Fl
open Go Go.Proofs
theorem L3 {gs gb m i : Nat} {a b : Int} {f : Nat → Bool} {w : World} (hs : w.heap[gs]? = some (.cells #[.slice (some ⟨gb, 0, none⟩) m m] 188 (0, 0))) (hb : w.heap[gb]? = some (.cells (bls m f).toArray 4 (0, 0))) (hi : i < m) :
  Calls Tryz.prog 124 #[.int .i64 i, .agg #[.int .i64 a, .int .i64 b], .pointer (some ⟨gs, 0, none⟩)] w (Ret w [] fun r M => M = [] ∧ r = .bool (f i)) := by
 refine Ao (args := [_, _, _]) (L := []) Tryz.func124 rfl Tryz.ntmps124 rfl (Own.start _ _) ?_
 refine Zs ?_
 refine Zw (Ba rfl rfl rfl) fun g4 => ?_
 refine Za ?_
 refine Zx <| Zs ?_
 refine Zu (Ai rfl rfl Qg (Bc hs rfl)) ?_
 refine Zm ?_
 refine Zi TZ Ft ?_
 refine Zu (Ai rfl rfl II (Bc hb (Ei f hi))) ?_
 refine Za ?_
 refine Zx <| DC.ret ?_
 refine Fin.weak (E' := [(5, _)]) ⟨rfl, trivial⟩ .nil ?_
 refine Zh ?_
 exact ⟨rfl, rfl⟩
/-- The edges at whose places f is true. -/
def kp (f : Nat → Bool) : Nat → List Pr → List Pr
 | _, [] => []
 | k, e :: r => if f k then e :: kp f (k + 1) r else kp f (k + 1) r
theorem Pt (f : Nat → Bool) : ∀ (a b : List Pr) (k : Nat), kp f k (a ++ b) = kp f k a ++ kp f (k + a.length) b
 | [], b, k => by simp [kp]
 | e :: r, b, k => by
  simp only [List.cons_append, kp, List.length_cons]
  rw [Pt f r b (k + 1), show k + 1 + r.length = k + (r.length + 1) by omega]
  split <;> simp
theorem Mo (f : Nat → Bool) : ∀ (a : List Pr) (k : Nat), (kp f k a).length ≤ a.length
 | [], k => by simp [kp]
 | e :: r, k => by
  have := Mo f r (k + 1)
  unfold kp
  split <;> simp <;> omega
theorem No (f : Nat → Bool) {es : List Pr} {i : Nat} {e : Pr} (he : es[i]? = some e) : kp f 0 (es.take (i + 1)) = kp f 0 (es.take i) ++ if f i then [e] else [] := by
 have hl := (TA.1 he).1
 rw [List.take_add_one, he, Pt]
 congr 1
 simp only [List.length_take, Nat.min_eq_left (Nat.le_of_lt hl), Nat.zero_add, Option.toList_some, kp]
structure KeI where
 i : Nat
 v : Value
theorem Mp {n : Int} {es : List Pr} {va : Value} {gs gb : Nat} {f : Nat → Bool} {w : World} (hg : PrV w va es) (hs : w.heap[gs]? = some (.cells #[.slice (some ⟨gb, 0, none⟩) es.length es.length] 188 (0, 0))) (hb : w.heap[gb]? = some (.cells (bls es.length f).toArray 4 (0, 0))) (hl : es.length ≤ 1000000000) :
  Calls Tryz.prog 123 #[.agg #[.int .i64 n, va], .func (.func 124) #[] #[.pointer (some ⟨gs, 0, none⟩)]] w (Ret w [] fun r M => M = [slc r 43 2 (prs (kp f 0 es))]) := by
 obtain ⟨A, cap, rfl, hr, hlc, hcm, hle⟩ := hg
 refine Ao (args := [_, _]) (L := []) Tryz.func123 rfl Tryz.ntmps123 rfl (Own.start _ _) ?_
 refine Zs ?_
 refine Zw (Ba rfl rfl rfl) fun g2 => ?_
 refine Za ?_
 refine Zx <| Zs ?_
 refine Za ?_
 refine Zx <| DC.seq <| Zs ?_
 refine Zf Be ?_
 refine Zl Bu ?_
 refine Zn TU ?_
 refine Zm ?_
 refine Zx <| DC.block ?_
 refine DC.own (fun w hw => AX (t := 43) (m := 2) hw) ?_
 refine DC.loop (ι := KeI) (fun j => j.i ≤ es.length)
  (fun j => [(1, .func (.func 124) #[] #[.pointer (some ⟨gs, 0, none⟩)]), (5, j.v), (9, .slice A es.length cap), (10, .int .i64 es.length), (11, .int .i64 j.i)])
  (fun j => [slc j.v 43 2 (prs (kp f 0 (es.take j.i)))]) (fun j => es.length - j.i) ⟨0, .slice none 0 0⟩ (Nat.zero_le _) ⟨rfl, rfl, rfl, rfl, rfl, trivial⟩ (.cons 0 rfl .nil) ?_
 rintro ⟨i, v⟩ hi
 dsimp only at hi ⊢
 refine Zs ?_
 refine Zc ?_
 refine Zx <| DC.seq ?_
 refine Zd (fun c3 => ?_) fun c3 => ?_
 ·have hlt : i < es.length := by simpa using c3
  obtain ⟨e, he⟩ : ∃ e, es[i]? = some e := ⟨_, Tz hlt⟩
  obtain ⟨ad, rfl, hU, hVe⟩ := hr.pair he
  have hkl := Mo f (es.take i) 0
  rw [List.length_take] at hkl
  refine DC.skip <| Fin.then <| DC.seq <| DC.block <| Zs ?_
  refine Zm ?_
  refine Zo (AM rfl rfl rfl TU AY (by omega) (by omega) (by first | exact AC _ _ | exact Bj _ _ _ | rfl)) ?_
  refine Zu (Ay (vs := [_, _]) rfl rfl B3 AY rfl (Cv hU hVe (by simp))) ?_
  refine Zw (AD rfl CE rfl) fun g7 => ?_
  refine Za ?_
  refine Zy (At (cs' := #[_, _]) rfl rfl rfl AY rfl (TB rfl) rfl) ?_
  refine Zx <| Zs ?_
  iterate 2 refine Zm ?_
  refine Zu (Ay (vs := [_, _]) rfl rfl B3 AY rfl (Ak rfl)) ?_
  refine Seq.rel0 rfl rfl (Ar S9 rfl rfl rfl (fun w' hw => L3 (Dn hw hs (by simp)) (Dn hw hb (by simp)) hlt)) ?_
  rintro _ rfl
  refine Zx ?_
  refine Zd (fun c5 => ?_) fun c5 => ?_
  ·refine DC.region ?_
   refine Zm ?_
   refine Zu (Ay (vs := [_, _]) rfl rfl B3 AY rfl (Ak rfl)) ?_
   refine Zw (AP (cs := #[_, _]) rfl rfl TU AY CE rfl (by decide) (by decide) rfl rfl) fun g22 => ?_
   refine Seq.gen rfl rfl (AK rfl rfl rfl TU AY P9 CE rfl (by decide) (by decide) (fun w hw => hw.pick (.cons 2 rfl .nil)) (.inl ⟨_, _, rfl, Ak rfl⟩) rfl (JG [e]) (by simp; omega)) ?_
   rintro v23 _ rfl
   refine Za ?_
   refine Seq.nil <| Fin.inBlock <| Fin.then <| DC.region ?_
   refine Zp ?_
   refine Zm ?_
   refine Seq.nil ?_
   refine Ag ⟨i + 1, v23⟩ (by dsimp only; omega) (by dsimp only; omega) ⟨rfl, rfl, rfl, rfl, rfl, trivial⟩ (.cons' 0 rfl (by dsimp only; rw [No f he, if_pos c5, Dm]) .nil)
  refine DC.skip <| Fin.inBlock <| Fin.then <| DC.region ?_
  refine Zp ?_
  refine Zm ?_
  refine Seq.nil ?_
  refine Ag ⟨i + 1, v⟩ (by dsimp only; omega) (by dsimp only; omega) ⟨rfl, rfl, rfl, rfl, rfl, trivial⟩ (.cons' 1 rfl (by dsimp only; rw [No f he, if_neg (by rw [c5]; simp), List.append_nil]) .nil)
 refine DC.exit <| Ad <| Ad <| Ah <| Fin.then <| Zs ?_
 refine Zm ?_
 refine Za ?_
 refine Zx <| DC.ret ?_
 have hie : i = es.length := by simp at c3; omega
 subst hie
 rw [List.take_length]
 refine Fin.weak (E' := [(4, _)]) (L' := [slc v 43 2 (prs (kp f 0 es))]) ⟨rfl, trivial⟩ (.cons 0 rfl .nil) ?_
 refine Zh ?_
 rfl
structure MdI where
 i : Nat
 v : Value
theorem Ml {n : Int} {es : List Pr} {va : Value} {w : World} (hg : PrV w va es) (hup : es.Pairwise Lex) (hlt : ∀ e, e ∈ es → e.1 < e.2) (hl : es.length ≤ 1000000000) :
  Calls Tryz.prog 122 #[.int .i64 n, va] w (Ret w [] fun r M => ∃ A l c, r = .agg #[.int .i64 n, .slice A l c] ∧ M = [slc (.slice A l c) 43 2 (prs es)]) := by
 obtain ⟨A, cap, rfl, hr, hlc, hcm, hle⟩ := hg
 refine Ao (args := [_, _]) (L := []) Tryz.func122 rfl Tryz.ntmps122 rfl (Own.start _ _) ?_
 refine Zs ?_
 refine Zw (AD rfl GM rfl) fun g4 => ?_
 refine Zx <| Zs ?_
 refine Zm ?_
 refine Zn TU ?_
 refine Zw (Ni (l := 0) (k := es.length) rfl rfl rfl TU AY P9 CE rfl (by omega) (by omega) (by omega) (by omega) rfl) fun g10 => ?_
 refine Za ?_
 refine Zx <| DC.seq <| Zs ?_
 refine Zm ?_
 refine Zn TU ?_
 refine Zm ?_
 refine Zx <| DC.block ?_
 refine DC.own (M := slc (.slice (some ⟨g10, 0, none⟩) 0 es.length) 43 2 [] :: [blk g4 24 #[.int .i64 0, .slice none 0 0]]) (fun w hw => BZ (vs := []) (m := 2) (len := 0) (cap := es.length) rfl (by decide) (by omega) (by omega) (by simp [madeCells]) rfl hw) ?_
 refine DC.loop (ι := MdI) (fun j => j.i ≤ es.length)
  (fun j => [(0, .int .i64 n), (4, .pointer (some ⟨g4, 0, none⟩)), (5, j.v), (11, .slice A es.length cap), (12, .int .i64 es.length), (13, .int .i64 j.i)])
  (fun j => slc j.v 43 2 (prs (es.take j.i)) :: [blk g4 24 #[.int .i64 0, .slice none 0 0]]) (fun j => es.length - j.i) ⟨0, _⟩ (Nat.zero_le _) ⟨rfl, rfl, rfl, rfl, rfl, rfl, trivial⟩ (.cons 0 rfl (.cons 0 rfl .nil)) ?_
 rintro ⟨i, v⟩ hi
 dsimp only at hi ⊢
 refine Zs ?_
 refine Zc ?_
 refine Zx <| DC.seq ?_
 refine Zd (fun c3 => ?_) fun c3 => ?_
 ·have hil : i < es.length := by simpa using c3
  obtain ⟨e, he⟩ : ∃ e, es[i]? = some e := ⟨_, Tz hil⟩
  obtain ⟨ad, rfl, hU, hVe⟩ := hr.pair he
  have hee := hlt e (TD he)
  have hmin : min e.1 e.2 = e.1 := by omega
  have hmax : max e.1 e.2 = e.2 := by omega
  refine DC.skip <| Fin.then <| DC.seq <| DC.block <| Zs ?_
  refine Zo (AM rfl rfl rfl TU AY (by omega) (by omega) (by first | exact AC _ _ | exact Bj _ _ _ | rfl)) ?_
  refine Zu (Ay (vs := [_, _]) rfl rfl B3 AY rfl (Cv hU hVe (by simp))) ?_
  refine Zw (AD rfl CE rfl) fun g7 => ?_
  refine Zy (At (cs' := #[_, _]) rfl rfl rfl AY rfl (TB rfl) rfl) ?_
  refine Zx <| DC.region ?_
  refine Zm ?_
  refine Zf Bb ?_
  refine Zl AJ ?_
  refine Zf Bk ?_
  refine Zl AJ ?_
  refine Zo (Na rfl rfl rfl) ?_
  refine Zf Bb ?_
  refine Zl AJ ?_
  refine Zf Bk ?_
  refine Zl AJ ?_
  refine Zo (Nb rfl rfl rfl) ?_
  refine Zo (AA (cs := #[_, _]) rfl rfl F3 rfl rfl) ?_
  refine Zw (AP (cs := #[_, _]) rfl rfl TU AY CE rfl (by decide) (by decide) rfl rfl) fun g29 => ?_
  refine Seq.gen rfl rfl (AK rfl rfl rfl TU AY P9 CE rfl (by decide) (by decide) (F := [blk g4 24 #[.int .i64 0, .slice none 0 0]]) (fun w hw => hw.pick (.cons 2 rfl (.cons 2 rfl .nil))) (.inl ⟨_, _, rfl, Ak rfl⟩) rfl (JG [(min e.1 e.2, max e.1 e.2)]) (by simp; omega)) ?_
  rintro v30 _ rfl
  refine Za ?_
  refine Seq.nil <| Fin.inBlock <| Fin.then <| DC.region ?_
  refine Zp ?_
  refine Zm ?_
  refine Seq.nil ?_
  refine Ag ⟨i + 1, v30⟩ (by dsimp only; omega) (by dsimp only; omega) ⟨rfl, rfl, rfl, rfl, rfl, rfl, trivial⟩ (.cons' 0 rfl (by dsimp only; rw [List.take_add_one, he, Dm, hmin, hmax]; rfl) (.cons 0 rfl .nil))
 refine DC.exit <| Ad <| Ad <| Ah <| Fin.then <| DC.seq ?_
 have hie : i = es.length := by simp at c3; omega
 subst hie
 rw [List.take_length]
 refine DC.region ?_
 refine Zm ?_
 refine Seq.gen rfl rfl (Bh Sz rfl rfl rfl (Lc := [slc v 43 2 (prs es)]) (F := [blk g4 24 #[.int .i64 0, .slice none 0 0]]) (.refl _) (fun k hk => hk) (fun w' hw => L6 (hw.sub (L' := [slc v 43 2 (prs es)]) ((TH _).cons_cons _)).self hup hl)) ?_
 rintro v33 _ ⟨_, rfl, rfl⟩
 simp only [zs]
 refine Zx <| DC.seq ?_
 refine DC.shape (t := 43) (m := 2) (vs := prs es) 0 rfl ?_
 rintro ⟨Av, lv, cv, rfl⟩
 refine DC.region ?_
 iterate 2 refine Zm ?_
 refine Zo (AA (cs := #[_, _]) rfl rfl F4 rfl rfl) ?_
 refine Zy (At (cs' := #[_, _]) rfl rfl rfl Bg rfl (TB rfl) rfl) ?_
 refine Zx <| DC.ret ?_
 refine Cw (cs := #[_, _]) (.inl rfl) rfl rfl Bn Bg ?_
 exact ⟨[slc (.slice Av lv cv) 43 2 (prs es)], fun w hw => hw.pick (.cons 0 rfl .nil), _, _, _, rfl, rfl⟩
open Classical in
theorem Ps {f : Nat → Bool} : ∀ {es : List Pr} {k : Nat} {e : Pr}, e ∈ kp f k es ↔ ∃ i, es[i]? = some e ∧ f (k + i) = true
 | [], k, e => by simp [kp]
 | x :: r, k, e => by
  have ih := Ps (f := f) (es := r) (k := k + 1) (e := e)
  unfold kp
  constructor
  ·intro h
   split at h
   ·rename_i hf
    rcases List.mem_cons.1 h with rfl | h
    ·exact ⟨0, rfl, hf⟩
    obtain ⟨i, hi, hfi⟩ := ih.1 h
    exact ⟨i + 1, by simpa using hi, by rw [← hfi]; congr 1; omega⟩
   obtain ⟨i, hi, hfi⟩ := ih.1 h
   exact ⟨i + 1, by simpa using hi, by rw [← hfi]; congr 1; omega⟩
  rintro ⟨i, hi, hfi⟩
  match i with
  | 0 =>
   simp at hi; subst hi
   rw [Nat.add_zero] at hfi
   rw [if_pos hfi]; simp
  | i + 1 =>
   have := ih.2 ⟨i, by simpa using hi, by rw [← hfi]; congr 1; omega⟩
   split
   ·exact TM _ this
   exact this
theorem Mn (f : Nat → Bool) : ∀ (es : List Pr) (k : Nat), (kp f k es).Sublist es
 | [], k => by simp [kp]
 | x :: r, k => by
  have := Mn f r (k + 1)
  unfold kp
  split
  ·exact this.cons_cons x
  exact this.cons x
theorem DY {N : Int} {es : List Pr} (hV : Vld N es) : es.Pairwise Lex := by
 rw [List.pairwise_iff_getElem]
 intro i j hi hj hij
 exact JQ hV hij (Tz hi) (Tz hj)
open Classical in
/-- Which places stand among the first i numbers. -/
noncomputable def stF (ks : List Int) (i : Nat) : Nat → Bool := fun x => decide ((x : Int) ∈ ks.take i)
theorem OC {n : Nat} {es : List Pr} {ks : List Int} {va vk : Value} {w : World} (hg : PrV w va es) (hV : Vld n es) (hk : SlV w vk ks) (hin : ∀ k, k ∈ ks → 0 ≤ k ∧ k < es.length) :
  Calls Tryz.prog 97 #[.agg #[.int .i64 n, va], vk] w (Ret w [] fun r M => ∃ Av l c, r = .tuple #[.agg #[.int .i64 n, .slice Av l c], .int .i64 0] ∧ M = [slc (.slice Av l c) 43 2 (prs (kp (stF ks ks.length) 0 es))]) := by
 have hg0 := hg
 have hfew := hV.few
 obtain ⟨A, cap, rfl, hr, hlc, hcm, hle⟩ := hg
 obtain ⟨B, capb, rfl, hrb, hlb, hcb, hleb⟩ := hk
 refine Ao (args := [_, _]) (L := []) Tryz.func97 rfl Tryz.ntmps97 rfl (Own.start _ _) ?_
 refine Zs ?_
 refine Zw (Ba rfl rfl rfl) fun g2 => ?_
 refine Zw (AD rfl GM rfl) fun g4 => ?_
 refine Za ?_
 refine Zx <| DC.seq <| Zs ?_
 refine Zu (Ay (vs := [_, _]) rfl rfl Bn Bg rfl (Ak rfl)) ?_
 refine Seq.rel0 rfl rfl (Ar MB rfl rfl rfl (fun w' hw => CG (hg0.keep0 hw))) ?_
 rintro _ ⟨b, rfl, hb⟩
 refine Zo (Bd rfl rfl) ?_
 refine Zx ?_
 refine Zd (fun c1 => ?_) fun c1 => ?_
 ·refine Zs ?_
  refine Zo (AA (cs := #[_, _]) rfl rfl F4 rfl rfl) ?_
  refine Zy (At (cs' := #[_, _]) rfl rfl rfl Bg rfl (TB rfl) rfl) ?_
  refine Za ?_
  refine Zx <| DC.ret <| Aa ?_
  refine Bf (cs := #[_, _]) (.inl rfl) rfl rfl rfl Bn Bg ?_
  rw [hb.2 hV] at c1
  simp at c1
 refine DC.skip <| Fin.then <| Zs ?_
 refine Zf Be ?_
 refine Zl Bu ?_
 refine Zn TU ?_
 refine Zw (Ca (k := es.length) rfl rfl rfl TZ Ft R2 Rv rfl (by omega) (by omega) (DK _)) fun g16 => ?_
 refine Zw (AD rfl R7 rfl) fun g6 => ?_
 refine Zy (AE (cs' := #[_]) rfl rfl rfl Sh rfl (TB rfl) rfl) ?_
 refine Zx <| DC.seq <| Zs ?_
 refine Zm ?_
 refine Zn TT ?_
 refine Zm ?_
 refine Zx <| DC.block ?_
 refine DC.loop (ι := Nat) (fun i => i ≤ ks.length)
  (fun i => [(2, .pointer (some ⟨g2, 0, none⟩)), (4, .pointer (some ⟨g4, 0, none⟩)), (6, .pointer (some ⟨g6, 0, none⟩)), (17, .slice B ks.length capb), (18, .int .i64 ks.length), (19, .int .i64 i)])
  (fun i => [blk g6 188 #[.slice (some ⟨g16, 0, none⟩) es.length es.length], blk g16 4 (bls es.length (stF ks i)).toArray, blk g4 24 #[.int .i64 0, .slice none 0 0], blk g2 24 #[.int .i64 n, .slice A es.length cap]]) (fun i => ks.length - i) 0 (Nat.zero_le _) ⟨rfl, rfl, rfl, rfl, rfl, rfl, trivial⟩
  (.cons 0 rfl (.cons' 0 rfl (by rw [show stF ks 0 = fun _ => false from funext fun x => by simp [stF]]) (.cons 0 rfl (.cons 0 rfl .nil)))) ?_
 rintro i hi
 refine Zs ?_
 refine Zc ?_
 refine Zx <| DC.seq ?_
 refine Zd (fun c5 => ?_) fun c5 => ?_
 ·have hlt : i < ks.length := by simpa using c5
  obtain ⟨k, hk⟩ : ∃ k, ks[i]? = some k := ⟨_, Tz hlt⟩
  obtain ⟨adb, rfl, hck⟩ := hrb.int hk
  obtain ⟨hk0, hk1⟩ := hin k (TD hk)
  refine DC.skip <| Fin.then <| DC.seq <| DC.block <| Zs ?_
  refine Zo (Aj (ad' := adb.add i) rfl rfl rfl TT AQ (by omega) (by omega) rfl) ?_
  refine Zu (Ai rfl rfl AJ (Aw hck)) ?_
  refine Za ?_
  refine Zx <| DC.seq <| Zs ?_
  refine Zm ?_
  refine Zc ?_
  refine Zm ?_
  refine Seq.split 25 rfl (fun k7_2 => ?_) (fun k7_2 => ?_)
  ·refine Zk ?_
   iterate 3 refine Zk ?_
   refine Zt ?_
   refine Zx ?_
   refine AI rfl ?_
   refine Zs ?_
   refine Zo (AA (cs := #[_, _]) rfl rfl F4 rfl rfl) ?_
   refine Zy (At (cs' := #[_, _]) rfl rfl rfl Bg rfl (TB rfl) rfl) ?_
   refine Za ?_
   refine Zx <| DC.ret <| Aa <| Ae <| Aa <| Aa <| Ae <| Aa ?_
   refine Bf (cs := #[_, _]) (.inl rfl) rfl rfl rfl Bn Bg ?_
   first
   | (simp at k7_2; omega)
   | (simp at c7; omega)
  refine Zm ?_
  refine Zl Qg ?_
  refine Zn TZ ?_
  refine Zo (Cc rfl rfl rfl) ?_
  refine Zg ?_
  refine Zx ?_
  refine Zd (fun c7 => ?_) fun c7 => ?_
  ·refine Zs ?_
   refine Zo (AA (cs := #[_, _]) rfl rfl F4 rfl rfl) ?_
   refine Zy (At (cs' := #[_, _]) rfl rfl rfl Bg rfl (TB rfl) rfl) ?_
   refine Za ?_
   refine Zx <| DC.ret <| Aa <| Ae <| Aa <| Aa <| Ae <| Aa ?_
   refine Bf (cs := #[_, _]) (.inl rfl) rfl rfl rfl Bn Bg ?_
   first
   | (simp at k7_2; omega)
   | (simp at c7; omega)
  refine DC.skip <| Fin.then <| DC.region ?_
  refine Zl Qg ?_
  refine Zm ?_
  refine Zi TZ Ft ?_
  refine Zy (AE (cs' := (bls es.length (stF ks (i + 1))).toArray) rfl rfl rfl Ft rfl (by simp; omega) (by
   rw [Eh]
   congr 1
   unfold bls
   apply List.map_congr_left
   intro x hx
   have hx := TN.1 hx
   congr 1
   unfold updB stF
   rw [List.take_add_one, hk]
   by_cases h : x = k.toNat
   ·rw [if_pos h]
    exact (decide_eq_true (by rw [List.mem_append]; right; simp; omega)).symm
   rw [if_neg h]
   have : ¬ (x : Int) = k := by omega
   simp [this])) ?_
  refine Seq.nil <| Fin.inBlock <| Fin.then <| DC.region ?_
  refine Zp ?_
  refine Zm ?_
  refine Seq.nil ?_
  refine Ag (i + 1) (by omega) (by omega) ⟨rfl, rfl, rfl, rfl, rfl, rfl, trivial⟩ (Pick.all _)
 refine DC.exit <| Ad <| Ad <| Ah <| Fin.then <| DC.seq ?_
 have hie : i = ks.length := by simp at c5; omega
 subst hie
 have hkl := Mo (stF ks ks.length) es 0
 have hsub := Mn (stF ks ks.length) es 0
 refine AF (cl := [.q, .v, .v, .q, .r, .r, .g, .q]) (A := [0, 1, 0, 0, 12, 31, 63, 127]) (order := [0, 1, 2, 3, 4, 5, 6, 7]) [] mixed (by kernel_rfl) (fun w hw => hw.pick .nil) ?_
 refine Yf BI ?_
 refine Yl AJ ?_
 refine Am rfl rfl rfl rfl (Ay (vs := [_, _]) rfl rfl Bn Bg rfl (Ak rfl)) ?_
 refine Yo rfl (Gh rfl rfl rfl) ?_
 refine E3 rfl rfl rfl rfl (Ar Ta rfl rfl rfl (fun w' hw => Mp (hg0.keep0 hw) (hw.holds _ (TI ..)) (hw.holds _ (TM _ (TI ..))) (by omega))) ?_
 rintro v40 _ rfl
 refine DR (V := (slc v40 43 2 (prs (kp (stF ks ks.length) 0 es)) :: [blk g6 188 #[.slice (some ⟨g16, 0, none⟩) es.length es.length], blk g16 4 (bls es.length (stF ks ks.length)).toArray, blk g4 24 #[.int .i64 0, .slice none 0 0], blk g2 24 #[.int .i64 n, .slice A es.length cap]])) rfl rfl rfl rfl (by kernel_rfl) (Ar Tb rfl rfl rfl (fun w' hw => Ml (CX hw 0 rfl (by omega)) ((DY hV).sublist hsub) (fun e he => by
  obtain ⟨j, hj⟩ := TF.1 (hsub.subset he)
  exact (hV.ok j e hj).lt) (by omega))) ?_
 rintro _ _ ⟨Av, l, c, rfl, rfl⟩
 refine Flow.sto (V := (slc (.slice Av l c) 43 2 (prs (kp (stF ks ks.length) 0 es)) :: slc v40 43 2 (prs (kp (stF ks ks.length) 0 es)) :: [blk g6 188 #[.slice (some ⟨g16, 0, none⟩) es.length es.length], blk g16 4 (bls es.length (stF ks ks.length)).toArray, blk g4 24 #[.int .i64 0, .slice none 0 0], blk g2 24 #[.int .i64 n, .slice A es.length cap]])) rfl rfl rfl rfl rfl (At (cs' := #[_, _]) rfl rfl rfl Bg rfl (TB rfl) rfl) (fun w hw => hw.pick (.nil)) ?_
 refine Yo rfl (AR rfl rfl) ?_
 refine Flow.end rfl ?_
 simp only [zq, zr]
 refine Fin.then <| DC.ret ?_
 refine Bf (cs := #[_, _]) (.inl rfl) rfl rfl rfl Bn Bg ?_
 exact ⟨[slc (.slice Av l c) 43 2 (prs (kp (stF ks ks.length) 0 es))], fun w hw => hw.pick (.cons 0 rfl .nil), Av, l, c, rfl, rfl⟩
theorem Nl : ∀ {a b : List Pr}, a.Pairwise Lex → b.Pairwise Lex → (∀ x, x ∈ a ↔ x ∈ b) → a = b
 | [], [], _, _, _ => rfl
 | [], y :: r, _, _, h => by have := (h y).2 (by simp); cases this
 | x :: r, [], _, _, h => by have := (h x).1 (by simp); cases this
 | x :: r, y :: s, ha, hb, h => by
  have irr : ∀ z : Pr, ¬ Lex z z := fun z hz => by unfold Lex at hz; omega
  have tr : ∀ {u v w : Pr}, Lex u v → Lex v w → Lex u w := fun h1 h2 => by unfold Lex at *; omega
  rw [List.pairwise_cons] at ha hb
  have hxy : x = y := by
   rcases List.mem_cons.1 ((h x).1 (by simp)) with h1 | h1
   ·exact h1
   rcases List.mem_cons.1 ((h y).2 (by simp)) with h2 | h2
   ·exact h2.symm
   exact absurd (tr (hb.1 x h1) (ha.1 y h2)) (irr y)
  subst hxy
  congr 1
  refine Nl ha.2 hb.2 fun z => ?_
  constructor
  ·intro hz
   rcases List.mem_cons.1 ((h z).1 (by simp [hz])) with h1 | h1
   ·subst h1; exact absurd (ha.1 z hz) (irr z)
   exact h1
  intro hz
  rcases List.mem_cons.1 ((h z).2 (by simp [hz])) with h1 | h1
  ·subst h1; exact absurd (hb.1 z hz) (irr z)
  exact h1
theorem Jp {n : Int} {es cs : List Pr} (hV : Vld n es) (hc : EdgesOk cs) (hin : ∀ c, c ∈ cs → c ∈ es) : Vld n cs :=
 ⟨hV.lo, hV.hi, hc.few, fun i e he => by
  obtain ⟨j, hj⟩ := TF.1 (hin e (TD he))
  exact hV.ok j e hj, hc.up⟩
theorem Ry {n : Int} {es cs : List Pr} {ns : List Int} (hV : Vld n es) (hc : EdgesOk cs) (hin : ∀ c, c ∈ cs → c ∈ es) (hn : NumR es cs ns) : kp (stF ns ns.length) 0 es = cs := by
 refine Nl ((DY hV).sublist (Mn _ _ _)) (DY (Jp hV hc hin)) fun e => ?_
 rw [Ps]
 unfold stF
 rw [List.take_length]
 constructor
 ·rintro ⟨i, hi, hfi⟩
  have hm : (i : Int) ∈ ns := by simpa using hfi
  obtain ⟨j, hj⟩ := TF.1 hm
  obtain ⟨c, hcj⟩ : ∃ c, cs[j]? = some c := ⟨_, Tz (by rw [← hn.1]; exact (TA.1 hj).1)⟩
  rcases hn.2 j c _ hcj hj with ⟨h1, _⟩ | ⟨i', h1, h2⟩
  ·omega
  have : i' = i := by omega
  subst this
  rw [hi] at h2; cases h2
  exact TD hcj
 intro he
 obtain ⟨j, hj⟩ := TF.1 he
 obtain ⟨m, hm⟩ : ∃ m, ns[j]? = some m := ⟨_, Tz (by rw [hn.1]; exact (TA.1 hj).1)⟩
 rcases hn.2 j e m hj hm with ⟨_, h1⟩ | ⟨i, h1, h2⟩
 ·exact absurd (hin e he) h1
 subst h1
 exact ⟨i, h2, by simpa using TD hm⟩
theorem JH {pl : Bool} {n : Nat} {es cs : List Pr} {va v u : Value} {w : World} (hg : PrV w va es) (hu : PrV w u cs) (hV : Vld n es) (hc : EdgesOk cs) (hin : ∀ c, c ∈ cs → c ∈ es) :
  Calls Tryz.prog 59 #[.agg #[.int .i64 n, va], .agg #[.bool pl, v, u]] w (Ret w [] fun r M => M = [] ∧ ∃ b, r = .bool b ∧ (b = true ↔ KuraOk n cs)) := by
 have hVc := Jp hV hc hin
 have hfew := hVc.few
 have hfe := hV.few
 refine Ao (args := [_, _]) (L := []) Tryz.func59 rfl Tryz.ntmps59 rfl (Own.start _ _) ?_
 refine Zs ?_
 refine Zw (Ba rfl rfl rfl) fun g2 => ?_
 refine Zw (Ba rfl rfl rfl) fun g3 => ?_
 refine Za ?_
 refine Zx <| DC.seq ?_
 refine AF (cl := [.v, .v, .v, .r, .r, .q, .q, .q, .n, .g, .q]) (A := [0, 0, 0, 6, 15, 31, 63, 63, 0, 383, 1023]) (order := [0, 1, 2, 3, 4, 5, 6, 7, 8, 9, 10]) [] mixed (by kernel_rfl) (fun w hw => hw.pick .nil) ?_
 refine Am rfl rfl rfl rfl (Ay (vs := [_, _]) rfl rfl Bn Bg rfl (Ak rfl)) ?_
 refine Am rfl rfl rfl rfl (Ay (vs := [_, _]) rfl rfl Bn Bg rfl (Ak rfl)) ?_
 refine Am rfl rfl rfl rfl (Ay (vs := [_, _, _]) rfl rfl CD BV rfl (Ak rfl)) ?_
 refine E3 rfl rfl rfl rfl (Ar Sw rfl rfl rfl (fun w' hw => EG (hg.keep0 hw) (hu.keep0 hw))) ?_
 rintro _ _ ⟨gn, ns, rfl, hn, rfl⟩
 refine DR (V := (blk gn 3 (ints ns).toArray :: [blk g3 27 #[.bool pl, v, u], blk g2 24 #[.int .i64 n, va]])) rfl rfl rfl rfl (by kernel_rfl) (Ar en97 rfl rfl rfl (fun w' hw => OC (hg.keep0 hw) hV (B4 hw (by simp) hn.1 (by omega)) (fun k hk => by
  obtain ⟨j, hj⟩ := TF.1 hk
  obtain ⟨c, hcj⟩ : ∃ c, cs[j]? = some c := ⟨_, Tz (by rw [← hn.1]; exact (TA.1 hj).1)⟩
  rcases hn.2 j c _ hcj hj with ⟨_, h1⟩ | ⟨i, h1, h2⟩
  ·exact absurd (hin c (TD hcj)) h1
  have := (TA.1 h2).1; omega))) ?_
 rintro _ _ ⟨Av, l, c, rfl, rfl⟩
 rw [Ry hV hc hin hn]
 refine Ym ?_
 refine Yo rfl (DJ rfl rfl rfl) ?_
 refine Yo rfl (DJ rfl rfl rfl) ?_
 refine BD rfl rfl rfl rfl (AD rfl GM rfl) fun g5 => ?_
 refine Flow.sto (V := (blk g5 24 #[.int .i64 0, .slice none 0 0] :: slc (.slice Av l c) 43 2 (prs cs) :: blk gn 3 (ints ns).toArray :: [blk g3 27 #[.bool pl, v, u], blk g2 24 #[.int .i64 n, va]])) rfl rfl rfl rfl rfl (At (cs' := #[_, _]) rfl rfl rfl Bg rfl (TB rfl) rfl) (fun w hw => hw.pick (.nil)) ?_
 refine Yo rfl (AR rfl rfl) ?_
 refine Flow.end rfl ?_
 simp only [zq, zr]
 refine Fin.then <| DC.seq <| Zs ?_
 refine Zm ?_
 refine Zo (BK rfl rfl rfl) ?_
 refine Zx ?_
 refine Zd (fun c2 => ?_) fun c2 => ?_
 ·refine Zs ?_
  refine Za ?_
  refine Zx <| DC.ret <| Aa ?_
  refine Zh ?_
  simp at c2
 refine DC.skip <| Fin.then <| Zs ?_
 refine Zu (Ay (vs := [_, _]) rfl rfl Bn Bg rfl (Ak rfl)) ?_
 refine Seq.rel0 rfl rfl (Ar en98 rfl rfl rfl (fun w' hw => GR (CX hw 1 rfl (by omega)) hVc)) ?_
 rintro _ ⟨k0, A0, l0, c0, A1, l1, c1, b, rfl, hb⟩
 refine Zm ?_
 iterate 3 refine Ze ?_
 refine Zw (AD rfl Jn rfl) fun g7 => ?_
 refine Zy (At (cs' := #[_, _, _]) rfl rfl rfl Cm rfl (TB rfl) rfl) ?_
 iterate 2 refine Za ?_
 refine Zx <| Zs ?_
 refine Zm ?_
 refine Za ?_
 refine Zx <| DC.ret ?_
 refine Fin.weak (E' := [(4, _)]) ⟨rfl, trivial⟩ .nil ?_
 refine Zh ?_
 exact ⟨rfl, b, rfl, hb⟩
open Classical
/-! ### a rotation is flat or not, whatever way it was found -/
theorem IR {N : Int} {es : List Pr} {ls rs rs' : List (List Int)} (hV : Vld N es) (h : RotR es ls rs) (h' : RotR es ls rs') : rs = rs' := by
 apply List.ext_getElem?
 intro v
 by_cases hv : v < ls.length
 ·obtain ⟨l, hl⟩ : ∃ l, ls[v]? = some l := ⟨_, Tz hv⟩
  obtain ⟨r, hr⟩ : ∃ r, rs[v]? = some r := ⟨_, Tz (by rw [h.1]; exact hv)⟩
  obtain ⟨r', hr'⟩ : ∃ r, rs'[v]? = some r := ⟨_, Tz (by rw [h'.1]; exact hv)⟩
  rw [hr, hr']
  congr 1
  obtain ⟨q1, q2⟩ := h.2 v l r hl hr
  obtain ⟨q3, q4⟩ := h'.2 v l r' hl hr'
  apply List.ext_getElem?
  intro j
  by_cases hj : j < l.length
  ·obtain ⟨u, hu⟩ : ∃ u, l[j]? = some u := ⟨_, Tz hj⟩
   obtain ⟨x, hx⟩ : ∃ x, r[j]? = some x := ⟨_, Tz (by omega)⟩
   obtain ⟨y, hy⟩ : ∃ y, r'[j]? = some y := ⟨_, Tz (by omega)⟩
   rw [hx, hy, (q2 j u x hu hx).uniq hV (q4 j u y hu hy)]
  rw [TQ (by omega), TQ (by omega)]
 rw [TQ (by rw [h.1]; omega), TQ (by rw [h'.1]; omega)]
theorem QH {n : Nat} {es : List Pr} {rs : List (List Int)} {f g : Nat → Int} (hok : RotL n es rs) (hf : NxOk rs rs.length f) (hg : NxOk rs rs.length g) {h : Nat} (hh : h < es.length * 2) : f h = g h := by
 obtain ⟨v, l, i, hl, hi, _⟩ := Fe hok hh
 have h1 := (FC hok hf hl hi).1
 have h2 := (FC hok hg hl hi).1
 rw [h1] at h2
 exact Option.some.inj h2
theorem MA {n : Nat} {es : List Pr} {rs : List (List Int)} {f g : Nat → Int} (hok : RotL n es rs) (hf : NxOk rs rs.length f) (hg : NxOk rs rs.length g) : facesN es f = facesN es g := by
 have hp := (G1 hok hf).1
 have htw : ∀ h, h < es.length * 2 → twn h < es.length * 2 := fun h hh => by unfold twn; split <;> omega
 have hit : ∀ h, h < es.length * 2 → ∀ k, itr (phi f) k h = itr (phi g) k h := by
  intro h hh k
  induction k with
  | zero => rfl
  | succ k ih =>
   have h1 := CJ hp hh k
   show phi f (itr (phi f) k h) = phi g (itr (phi g) k h)
   rw [← ih]
   show (f (twn (itr (phi f) k h))).toNat = (g (twn (itr (phi f) k h))).toNat
   rw [QH hok hf hg (htw _ h1)]
 unfold facesN headsOf
 congr 2
 apply List.filter_congr
 intro x hx
 have hx := TN.1 hx
 unfold Lead
 simp only [hit x hx]
theorem HY {n : Nat} {es : List Pr} {rs : List (List Int)} {f g : Nat → Int} (hok : RotL n es rs) (hf : NxOk rs rs.length f) (hg : NxOk rs rs.length g) : genus2 n es f = genus2 n es g := by
 unfold genus2; rw [MA hok hf hg]
/-- The lists say a flat rotation. -/
def FlatP (n : Nat) (es : List Pr) (ls : List (List Int)) : Prop := ∃ rs fn, RotR es ls rs ∧ NxOk rs rs.length fn ∧ genus2 n es fn = 0
theorem Ja {n : Nat} {es : List Pr} {ls : List (List Int)} {b : Prop} (hok : RotOk n es ls) (h : FlatR n es ls b) : b ↔ FlatP n es ls := by
 obtain ⟨rs, fn, h1, h2, h3⟩ := h
 rw [h3]
 constructor
 ·intro hb; exact ⟨rs, fn, h1, h2, hb⟩
 rintro ⟨rs', fn', k1, k2, k3⟩
 have := IR hok.1 h1 k1
 subst this
 rw [HY (GV hok h1) h2 k2]; exact k3
/-- What check.Graph answers. -/
noncomputable def chkF (N : Int) (es : List Pr) (pl : Bool) (ls : List (List Int)) (cs : List Pr) : Int :=
 if ¬ Vld N es then 1
 else if ¬ TextOk pl ls cs then 181
 else if pl then (if ¬ RotOk N es ls then 182 else if ¬ FlatP N.toNat es ls then 183 else 0)
 else (if ¬ (∀ c, c ∈ cs → c ∈ es) then 184 else if ¬ KuraOk N.toNat cs then 185 else 0)
theorem Jw {N : Int} {es : List Pr} {va c : Value} {w : World} {p v u : Value} (hg : PrV w va es) (hc : c = .agg #[p, v, u]) (h1 : p.oneCell' = true) (h2 : v.oneCell' = true) (h3 : u.oneCell' = true) :
  Calls Tryz.prog 54 #[.agg #[.int .i64 N, va], c] w (Ret w [] fun r M => M = [] ∧ ∃ b, r = .bool b ∧ (b = true ↔ Vld N es)) := by
 subst hc
 refine Ao (args := [_, _]) (L := []) Tryz.func54 rfl Tryz.ntmps54 rfl (Own.start _ _) ?_
 refine Zs ?_
 refine Zw (Ba rfl rfl rfl) fun g2 => ?_
 refine Zw (Ba rfl rfl (P8 h1 h2 h3)) fun g3 => ?_
 refine Za ?_
 refine Zx <| Zs ?_
 refine Zu (Ay (vs := [_, _]) rfl rfl Bn Bg rfl (Ak rfl)) ?_
 refine Seq.rel0 rfl rfl (Ar MB rfl rfl rfl (fun w' hw => CG (hg.keep0 hw))) ?_
 rintro _ ⟨b, rfl, hb⟩
 refine Za ?_
 refine Zx <| DC.ret ?_
 refine Fin.weak (E' := [(4, _)]) ⟨rfl, trivial⟩ .nil ?_
 refine Zh ?_
 exact ⟨rfl, b, rfl, hb⟩
def fnv (f : Nat) : Value := .func (.func f) #[] #[]
def stepsA : Array Value := #[.int .i64 0, fnv 54, .int .i64 1, .int .i64 0, fnv 55, .int .i64 181, .int .i64 1, fnv 56, .int .i64 182, .int .i64 1, fnv 57, .int .i64 183, .int .i64 (-1), fnv 58, .int .i64 184, .int .i64 (-1), fnv 59, .int .i64 185]
theorem KB (w : World) : Calls Tryz.prog 30 #[] w (Ret w [] fun r M => ∃ g, r = .slice (some ⟨g, 0, none⟩) 6 6 ∧ M = [blk g 69 stepsA]) := by
 refine Ao (args := []) (L := []) Tryz.func30 rfl Tryz.ntmps30 rfl (Own.start _ _) ?_
 refine Zs ?_
 refine Za ?_
 refine Zx <| Zs ?_
 refine Zo (AA (cs := #[_, _, _]) rfl rfl OB rfl rfl) ?_
 refine Zo (AA (cs := #[_, _, _]) rfl rfl OB rfl rfl) ?_
 refine Zo (AA (cs := #[_, _, _]) rfl rfl OB rfl rfl) ?_
 refine Zo (AA (cs := #[_, _, _]) rfl rfl OB rfl rfl) ?_
 refine Zo (AA (cs := #[_, _, _]) rfl rfl OB rfl rfl) ?_
 refine Zo (AA (cs := #[_, _, _]) rfl rfl OB rfl rfl) ?_
 refine Zw (AP (cs := #[_, _, _, _, _, _, _, _, _, _, _, _, _, _, _, _, _, _]) rfl rfl Tryz.underlying66 Qt R3 rfl (by decide) (by decide) rfl rfl) fun g7 => ?_
 refine Za ?_
 refine Zx <| DC.ret ?_
 refine Fin.weak (E' := [(0, _)]) ⟨rfl, trivial⟩ (Pick.all _) ?_
 refine Zh ?_
 exact ⟨g7, rfl, rfl⟩
end Go.Fl

namespace Go.Fl
open Go Go.Proofs
open Classical
def ofS : Nat → Int
 | 0 => 0
 | 1 => 0
 | 2 => 1
 | 3 => 1
 | _ => -1
def fnS : Nat → Nat
 | 0 => 54
 | 1 => 55
 | 2 => 56
 | 3 => 57
 | 4 => 58
 | _ => 59
def badS : Nat → Int
 | 0 => 1
 | 1 => 181
 | 2 => 182
 | 3 => 183
 | 4 => 184
 | _ => 185
theorem NM {i : Nat} (hi : i < 6) : (stepsA.toList.drop (i * 3)).take [Value.int .i64 (ofS i), fnv (fnS i), .int .i64 (badS i)].length = [.int .i64 (ofS i), fnv (fnS i), .int .i64 (badS i)] := by
 rcases (show i = 0 ∨ i = 1 ∨ i = 2 ∨ i = 3 ∨ i = 4 ∨ i = 5 by omega) with rfl | rfl | rfl | rfl | rfl | rfl <;> rfl
theorem Nw {i : Nat} (hi : i < 6) : Ent Tryz.prog (fnS i) := by
 rcases (show i = 0 ∨ i = 1 ∨ i = 2 ∨ i = 3 ∨ i = 4 ∨ i = 5 by omega) with rfl | rfl | rfl | rfl | rfl | rfl
 ·exact en54
 ·exact en55
 ·exact en56
 ·exact en57
 ·exact en58
 exact en59
/-- What each step asks. -/
def PS (N : Int) (es : List Pr) (pl : Bool) (ls : List (List Int)) (cs : List Pr) : Nat → Prop
 | 0 => Vld N es
 | 1 => TextOk pl ls cs
 | 2 => RotOk N es ls
 | 3 => FlatP N.toNat es ls
 | 4 => ∀ c, c ∈ cs → c ∈ es
 | _ => KuraOk N.toNat cs
def kindS (pl : Bool) : Int := if pl then 1 else -1
def Appl (pl : Bool) (i : Nat) : Prop := ofS i = 0 ∨ ofS i = kindS pl
theorem Hl {N : Int} {pl : Bool} {es cs : List Pr} {ls : List (List Int)} {va v u : Value} {w : World} (hg : PrV w va es) (hv : LsV w v ls) (hu : PrV w u cs) (hp : Pow w) (hs : ∀ l, l ∈ ls → l.length ≤ 33554432)
  {i : Nat} (hi : i < 6) (ha : Appl pl i) (hall : ∀ j, j < i → Appl pl j → PS N es pl ls cs j) :
  Calls Tryz.prog (fnS i) #[.agg #[.int .i64 N, va], .agg #[.bool pl, v, u]] w (Ret w [] fun r M => M = [] ∧ ∃ b, r = .bool b ∧ (b = true ↔ PS N es pl ls cs i)) := by
 have hv1 : v.oneCell' = true := by obtain ⟨A, c, rfl, _⟩ := hv; rfl
 have hu1 : u.oneCell' = true := by obtain ⟨A, c, rfl, _⟩ := hu; rfl
 have h0 : 0 < i → Vld N es := fun h => hall 0 h (.inl rfl)
 have hnat : 0 < i → ((N.toNat : Nat) : Int) = N := fun h => by have := (h0 h).lo; omega
 have h1 : 1 < i → TextOk pl ls cs := fun h => hall 1 h (.inl rfl)
 have hedges : 1 < i → pl = false → EdgesOk cs := fun h hpl => by
  have := (h1 h).1
  rw [hpl] at this
  exact this.2
 rcases (show i = 0 ∨ i = 1 ∨ i = 2 ∨ i = 3 ∨ i = 4 ∨ i = 5 by omega) with rfl | rfl | rfl | rfl | rfl | rfl
 ·exact Jw hg rfl rfl hv1 hu1
 ·exact KW hv hu hp hs
 ·exact Ku hg hv
 ·have hpl : pl = true := by
   rcases ha with h | h
   ·simp [ofS] at h
   cases pl
   ·simp [ofS, kindS] at h
   rfl
  have hr : RotOk N es ls := hall 2 (by omega) (.inr (by rw [hpl]; rfl))
  rw [← hnat (by omega)] at hr ⊢
  refine (LI hg hv hr).mono ?_
  rintro e w' ⟨r, L, rfl, ⟨rfl, b, rfl, hb⟩, hO⟩
  refine ⟨_, _, rfl, ⟨rfl, b, rfl, ?_⟩, hO⟩
  exact Ja hr hb
 ·exact Jo hg hu
 have hpl : pl = false := by
  rcases ha with h | h
  ·simp [ofS] at h
  cases pl
  ·rfl
  simp [ofS, kindS] at h
 have hin : ∀ c, c ∈ cs → c ∈ es := hall 4 (by omega) (.inr (by rw [hpl]; rfl))
 have hV := h0 (by omega)
 rw [← hnat (by omega)] at hV ⊢
 exact JH hg hu hV (hedges (by omega) hpl) hin
theorem ND {N : Int} {pl : Bool} {es cs : List Pr} {ls : List (List Int)} {i : Nat} (hi : i < 6) (ha : Appl pl i) (hall : ∀ j, j < i → Appl pl j → PS N es pl ls cs j) (hn : ¬ PS N es pl ls cs i) : chkF N es pl ls cs = badS i := by
 have h0 : 0 < i → Vld N es := fun h => hall 0 h (.inl rfl)
 have h1 : 1 < i → TextOk pl ls cs := fun h => hall 1 h (.inl rfl)
 unfold chkF
 have hk1 : ∀ {k : Int}, (k = 0 ∨ k = kindS true) → k = 0 ∨ k = 1 := fun h => h
 have hk2 : ∀ {k : Int}, (k = 0 ∨ k = kindS false) → k = 0 ∨ k = -1 := fun h => h
 rcases (show i = 0 ∨ i = 1 ∨ i = 2 ∨ i = 3 ∨ i = 4 ∨ i = 5 by omega) with rfl | rfl | rfl | rfl | rfl | rfl
 ·have hn' : ¬ Vld N es := hn
  rw [if_pos hn']; rfl
 ·have a0 := h0 (by omega)
  have hn' : ¬ TextOk pl ls cs := hn
  rw [if_neg (not_not_intro a0), if_pos hn']; rfl
 ·have a0 := h0 (by omega)
  have a1 := h1 (by omega)
  have hn' : ¬ RotOk N es ls := hn
  rw [if_neg (not_not_intro a0), if_neg (not_not_intro a1)]
  cases pl
  ·have := hk2 ha; simp [ofS] at this
  rw [if_pos rfl, if_pos hn']; rfl
 ·have a0 := h0 (by omega)
  have a1 := h1 (by omega)
  have hn' : ¬ FlatP N.toNat es ls := hn
  rw [if_neg (not_not_intro a0), if_neg (not_not_intro a1)]
  cases pl
  ·have := hk2 ha; simp [ofS] at this
  have a2 : RotOk N es ls := hall 2 (by omega) (.inr rfl)
  rw [if_pos rfl, if_neg (not_not_intro a2), if_pos hn']; rfl
 ·have a0 := h0 (by omega)
  have a1 := h1 (by omega)
  have hn' : ¬ ∀ c, c ∈ cs → c ∈ es := hn
  rw [if_neg (not_not_intro a0), if_neg (not_not_intro a1)]
  cases pl
  ·rw [if_neg (by simp), if_pos hn']; rfl
  have := hk1 ha; simp [ofS] at this
 have a0 := h0 (by omega)
 have a1 := h1 (by omega)
 have hn' : ¬ KuraOk N.toNat cs := hn
 rw [if_neg (not_not_intro a0), if_neg (not_not_intro a1)]
 cases pl
 ·have a4 : ∀ c, c ∈ cs → c ∈ es := hall 4 (by omega) (.inr rfl)
  rw [if_neg (by simp), if_neg (not_not_intro a4), if_pos hn']; rfl
 have := hk1 ha; simp [ofS] at this
theorem RY {N : Int} {pl : Bool} {es cs : List Pr} {ls : List (List Int)} (hall : ∀ j, j < 6 → Appl pl j → PS N es pl ls cs j) : chkF N es pl ls cs = 0 := by
 unfold chkF
 have h0 : Vld N es := hall 0 (by omega) (.inl rfl)
 have h1 : TextOk pl ls cs := hall 1 (by omega) (.inl rfl)
 rw [if_neg (not_not_intro h0), if_neg (not_not_intro h1)]
 cases pl
 ·have a4 : ∀ c, c ∈ cs → c ∈ es := hall 4 (by omega) (.inr rfl)
  have a5 : KuraOk N.toNat cs := hall 5 (by omega) (.inr rfl)
  rw [if_neg (by simp), if_neg (not_not_intro a4), if_neg (not_not_intro a5)]
 have a2 : RotOk N es ls := hall 2 (by omega) (.inr rfl)
 have a3 : FlatP N.toNat es ls := hall 3 (by omega) (.inr rfl)
 rw [if_pos rfl, if_neg (not_not_intro a2), if_neg (not_not_intro a3)]
theorem DG {N : Int} {pl : Bool} {es cs : List Pr} {ls : List (List Int)} {va v u : Value} {w : World} (hg : PrV w va es) (hv : LsV w v ls) (hu : PrV w u cs) (hp : Pow w) (hs : ∀ l, l ∈ ls → l.length ≤ 33554432) :
  Calls Tryz.prog 10 #[.agg #[.int .i64 N, va], .agg #[.bool pl, v, u]] w (Ret w [] fun r M => M = [] ∧ r = .int .i64 (chkF N es pl ls cs)) := by
 have hga : ∃ A l c, va = .slice A l c := by obtain ⟨A, c, rfl, _⟩ := hg; exact ⟨_, _, _, rfl⟩
 have hva : ∃ A l c, v = .slice A l c := by obtain ⟨A, c, rfl, _⟩ := hv; exact ⟨_, _, _, rfl⟩
 have hua : ∃ A l c, u = .slice A l c := by obtain ⟨A, c, rfl, _⟩ := hu; exact ⟨_, _, _, rfl⟩
 obtain ⟨A1, l1, c1, rfl⟩ := hga
 obtain ⟨A2, l2, c2, rfl⟩ := hva
 obtain ⟨A3, l3, c3, rfl⟩ := hua
 refine Ao (args := [_, _]) (L := []) Tryz.func10 rfl Tryz.ntmps10 rfl (Own.start _ _) ?_
 refine Zs ?_
 refine Zw (Ba rfl rfl rfl) fun g2 => ?_
 refine Zw (Ba rfl rfl rfl) fun g3 => ?_
 refine Za ?_
 refine Zx <| Zs ?_
 refine Za ?_
 refine Zx ?_
 refine DC.cut (ι := Unit) (fun _ => True) (fun _ => [(2, .pointer (some ⟨g2, 0, none⟩)), (3, .pointer (some ⟨g3, 0, none⟩)), (5, .int .i64 (kindS pl))]) (fun _ => [blk g3 27 #[.bool pl, .slice A2 l2 c2, .slice A3 l3 c3], blk g2 24 #[.int .i64 N, .slice A1 l1 c1]]) ?first3 ?rest3
 case first3 =>
  refine Zs ?_
  refine Zf CU ?_
  refine Zl II ?_
  refine Zx ?_
  refine Zd (fun c2 => ?_) fun c2 => ?_
  ·refine DC.region ?_
   refine Za ?_
   refine Seq.nil ?_
   refine AG () trivial ⟨rfl, rfl, by rw [show pl = true from c2]; rfl, trivial⟩ (Pick.all _)
  refine DC.skip ?_
  refine AG () trivial ⟨rfl, rfl, by rw [show pl = false from c2]; rfl, trivial⟩ (Pick.all _)
 rintro _ _
 refine DC.seq <| Zs ?_
 refine Seq.rel rfl rfl (Ar en30 rfl rfl rfl (fun w' hw => KB w')) ?_
 rintro _ _ ⟨gs, rfl, rfl⟩
 simp only [zs]
 refine Zn Tryz.underlying66 ?_
 refine Zm ?_
 refine Zx <| DC.block ?_
 refine DC.loop (ι := Nat) (fun i => i ≤ 6 ∧ ∀ j, j < i → Appl pl j → PS N es pl ls cs j)
  (fun i => [(2, .pointer (some ⟨g2, 0, none⟩)), (3, .pointer (some ⟨g3, 0, none⟩)), (5, .int .i64 (kindS pl)), (10, .slice (some ⟨gs, 0, none⟩) 6 6), (11, .int .i64 6), (12, .int .i64 i)])
  (fun _ => [blk gs 69 stepsA, blk g3 27 #[.bool pl, .slice A2 l2 c2, .slice A3 l3 c3], blk g2 24 #[.int .i64 N, .slice A1 l1 c1]]) (fun i => 6 - i) 0 ⟨Nat.zero_le _, fun _ h => absurd h (TS _)⟩
  ⟨rfl, rfl, rfl, rfl, rfl, rfl, trivial⟩ (Pick.all _) ?_
 rintro i ⟨hi, hall⟩
 refine Zs ?_
 refine Zc ?_
 refine Zx <| DC.seq ?_
 refine Zd (fun c5 => ?_) fun c5 => ?_
 ·have hlt : i < 6 := by simp at c5; omega
  refine DC.skip <| Fin.then <| DC.seq <| DC.block <| Zs ?_
  refine Zo (AM (ad' := ⟨gs, i * 3, none⟩) rfl rfl rfl Tryz.underlying66 Qt (by omega) (by omega) (AC _ _)) ?_
  refine Zu (Ay (vs := [.int .i64 (ofS i), fnv (fnS i), .int .i64 (badS i)]) rfl rfl ag69 Qt rfl (Ak (NM hlt))) ?_
  refine Zw (AD rfl R3 rfl) fun g7 => ?_
  refine Zy (At (cs' := #[.int .i64 (ofS i), fnv (fnS i), .int .i64 (badS i)]) rfl rfl rfl Qt rfl (TB rfl) rfl) ?_
  refine Zx <| Zs ?_
  refine Zf PM ?_
  refine Zl AJ ?_
  refine Zo (AN rfl rfl rfl) ?_
  refine Zm ?_
  refine Seq.split 19 rfl (fun k7_3 => ?_) (fun k7_3 => ?_)
  ·refine Zk ?_
   iterate 3 refine Zk ?_
   refine Zt ?_
   refine Zm ?_
   refine Zf PL ?_
   refine Zl Tw ?_
   refine Zu (Ay (vs := [_, _]) rfl rfl Bn Bg rfl (Ak rfl)) ?_
   refine Zu (Ay (vs := [_, _, _]) rfl rfl CD BV rfl (Ak rfl)) ?_
   have hap : Appl pl i := by first | exact .inl (by simpa using k7_3) | exact .inr (by simpa using k7_9)
   refine Seq.rel0 rfl rfl (Ar (Nw hlt) rfl rfl rfl (fun w' hw => Hl (hg.keep0 hw) (hv.keep0 hw) (hu.keep0 hw) (hp.keep0 hw) hs hlt hap hall)) ?_
   rintro _ ⟨b, rfl, hb⟩
   refine Zo (Bd rfl rfl) ?_
   refine Zt ?_
   refine Zx ?_
   refine Zd (fun c7 => ?_) fun c7 => ?_
   ·refine Zs ?_
    refine Zf PK ?_
    refine Zl F6 ?_
    refine Za ?_
    refine Zx <| DC.ret <| Ae <| Aa <| Aa <| Ae <| Aa ?_
    refine Fin.weak (E' := [(4, _)]) ⟨rfl, trivial⟩ .nil ?_
    refine Zh ?_
    exact ⟨rfl, by rw [ND hlt hap hall (fun h => by rw [hb.2 h] at c7; simp at c7)]⟩
   refine DC.skip <| Fin.inBlock <| Fin.then <| DC.region ?_
   refine Zp ?_
   refine Zm ?_
   refine Seq.nil ?_
   refine Ag (i + 1) (by omega) ⟨by omega, fun j hj hap' => ?_⟩ ⟨rfl, rfl, rfl, rfl, rfl, rfl, trivial⟩ (.cons 1 rfl (.cons 1 rfl (.cons 1 rfl .nil)))
   rcases TE.1 hj with hj | rfl
   ·exact hall j hj hap'
   exact hb.1 (by simpa using c7)
  refine Zf PM ?_
  refine Zl AJ ?_
  refine Zm ?_
  refine Zo (AN rfl rfl rfl) ?_
  refine Zg ?_
  refine Zm ?_
  refine Seq.split 25 rfl (fun k7_9 => ?_) (fun k7_9 => ?_)
  ·refine Zf PL ?_
   refine Zl Tw ?_
   refine Zu (Ay (vs := [_, _]) rfl rfl Bn Bg rfl (Ak rfl)) ?_
   refine Zu (Ay (vs := [_, _, _]) rfl rfl CD BV rfl (Ak rfl)) ?_
   have hap : Appl pl i := by first | exact .inl (by simpa using k7_3) | exact .inr (by simpa using k7_9)
   refine Seq.rel0 rfl rfl (Ar (Nw hlt) rfl rfl rfl (fun w' hw => Hl (hg.keep0 hw) (hv.keep0 hw) (hu.keep0 hw) (hp.keep0 hw) hs hlt hap hall)) ?_
   rintro _ ⟨b, rfl, hb⟩
   refine Zo (Bd rfl rfl) ?_
   refine Zt ?_
   refine Zx ?_
   refine Zd (fun c7 => ?_) fun c7 => ?_
   ·refine Zs ?_
    refine Zf PK ?_
    refine Zl F6 ?_
    refine Za ?_
    refine Zx <| DC.ret <| Ae <| Aa <| Aa <| Ae <| Aa ?_
    refine Fin.weak (E' := [(4, _)]) ⟨rfl, trivial⟩ .nil ?_
    refine Zh ?_
    exact ⟨rfl, by rw [ND hlt hap hall (fun h => by rw [hb.2 h] at c7; simp at c7)]⟩
   refine DC.skip <| Fin.inBlock <| Fin.then <| DC.region ?_
   refine Zp ?_
   refine Zm ?_
   refine Seq.nil ?_
   refine Ag (i + 1) (by omega) ⟨by omega, fun j hj hap' => ?_⟩ ⟨rfl, rfl, rfl, rfl, rfl, rfl, trivial⟩ (.cons 1 rfl (.cons 1 rfl (.cons 1 rfl .nil)))
   rcases TE.1 hj with hj | rfl
   ·exact hall j hj hap'
   exact hb.1 (by simpa using c7)
  iterate 6 refine Zk ?_
  refine Zg ?_
  refine Zx ?_
  refine AT rfl ?_
  refine DC.skip <| Fin.inBlock <| Fin.then <| DC.region ?_
  refine Zp ?_
  refine Zm ?_
  refine Seq.nil ?_
  refine Ag (i + 1) (by omega) ⟨by omega, fun j hj hap' => ?_⟩ ⟨rfl, rfl, rfl, rfl, rfl, rfl, trivial⟩ (.cons 1 rfl (.cons 1 rfl (.cons 1 rfl .nil)))
  rcases TE.1 hj with hj | rfl
  ·exact hall j hj hap'
  rcases hap' with h | h
  ·simp at k7_3; exact absurd h k7_3
  simp at k7_9; exact absurd h k7_9
 refine DC.exit <| Ad <| Ad <| Ah <| Fin.then <| Zs ?_
 refine Za ?_
 refine Zx <| DC.ret ?_
 refine Fin.weak (E' := [(4, _)]) ⟨rfl, trivial⟩ .nil ?_
 refine Zh ?_
 have hie : i = 6 := by simp at c5; omega
 subst hie
 exact ⟨rfl, by rw [RY hall]⟩
end Go.Fl

namespace Go.Fl
open Go Go.Proofs
open Classical
/-- What simple.Read answers of bytes. -/
def ReadR (bs : List UInt8) (N : Int) (es : List Pr) : Prop := ∃ n ps, rawF bs = .ok n ps ∧ ((N = n ∧ MakR n ps es) ∨ (N = 0 ∧ es = [] ∧ ¬ ∃ es, MakR n ps es))
theorem ReadR.uniq {bs : List UInt8} {N N' : Int} {es es' : List Pr} (h : ReadR bs N es) (h' : ReadR bs N' es') : N = N' ∧ es = es' := by
 obtain ⟨n, ps, h1, h2⟩ := h
 obtain ⟨n', ps', h3, h4⟩ := h'
 rw [h1] at h3
 cases h3
 rcases h2 with ⟨rfl, h2⟩ | ⟨rfl, rfl, h2⟩ <;> rcases h4 with ⟨rfl, h4⟩ | ⟨rfl, rfl, h4⟩
 ·exact ⟨rfl, h2.uniq h4⟩
 ·exact absurd ⟨_, h2⟩ h4
 ·exact absurd ⟨_, h4⟩ h2
 exact ⟨rfl, rfl⟩
theorem ReadR.few {bs : List UInt8} {N : Int} {es : List Pr} (h : ReadR bs N es) : es.length ≤ 4194304 := by
 obtain ⟨n, ps, _, ⟨_, h⟩ | ⟨_, rfl, _⟩⟩ := h
 ·exact h.few
 simp
theorem MP {vb : Value} {bs : List UInt8} {w : World} (hB : ByV w vb bs) :
  Calls Tryz.prog 38 #[vb] w (Ret w [] fun r M => ∃ n A l c code at' ps, r = .tuple #[.agg #[.int .i64 n, .slice A l c], .agg #[.int .i64 code, .int .i64 at']] ∧ M = [slc (.slice A l c) 35 2 (prs ps)] ∧ ps.length ≤ 33554433 ∧ (code = 0 → rawF bs = .ok n ps) ∧ (code ≠ 0 → ∀ n ps, rawF bs ≠ .ok n ps)) := by
 refine Calls.mono (Jl hB) ?_
 rintro e w' ⟨v, L', rfl, ⟨n, ps, vp, h1, h2, rfl, rfl⟩ | ⟨c, a, h1, h2, rfl, rfl⟩, hO⟩
 ·obtain ⟨A, c, rfl, _⟩ := CX hO 0 rfl (by omega)
  exact ⟨_, _, rfl, ⟨n, A, _, c, 0, 0, ps, rfl, rfl, h2, fun _ => h1, by simp⟩, hO⟩
 exact ⟨_, _, rfl, ⟨0, none, 0, 0, c, a, [], rfl, rfl, by simp, fun h => absurd h h2, fun _ n ps h => by rw [h1] at h; cases h⟩, AX hO⟩
theorem GA {vb : Value} {bs : List UInt8} {w : World} (hB : ByV w vb bs) :
  Calls Tryz.prog 21 #[vb] w (Ret w [] fun r M => ∃ N A l c code at' es, r = .tuple #[.agg #[.int .i64 N, .slice A l c], .agg #[.int .i64 code, .int .i64 at']] ∧ M = [slc (.slice A l c) 43 2 (prs es)] ∧ (code = 0 → ReadR bs N es) ∧ (code ≠ 0 → ∀ N es, ¬ ReadR bs N es)) := by
 refine Ao (K := []) (args := [_]) (L := []) Tryz.func21 rfl Tryz.ntmps21 rfl (Own.start _ _) ?_
 refine Zs ?_
 refine Zw (AD rfl GM rfl) fun g2 => ?_
 refine Zw (AD rfl Iq rfl) fun g3 => ?_
 refine Zx <| Zs ?_
 refine Zm ?_
 refine Seq.rel rfl rfl (Ar SF rfl rfl rfl (fun w hw => MP (hB.keep0 hw))) ?_
 rintro _ _ ⟨n, A, l, c, code, at', ps, rfl, rfl, hpl, hok, hbad⟩
 simp only [zs]
 refine Zm ?_
 iterate 2 refine Ze ?_
 refine Zw (AD rfl Ru rfl) fun g4 => ?_
 refine Zw (AD rfl Iq rfl) fun g5 => ?_
 refine Zy (At (cs' := #[_, _]) rfl rfl rfl Fb rfl (TB rfl) rfl) ?_
 refine Zy (At (cs' := #[_, _]) rfl rfl rfl B1 rfl (TB rfl) rfl) ?_
 refine Zx <| DC.seq <| Zs ?_
 refine Zf Gw ?_
 refine Zl F6 ?_
 refine Zo (BK rfl rfl rfl) ?_
 refine Zx ?_
 refine Zd (fun c2 => ?_) fun c2 => ?_
 ·refine DC.seq ?_
  refine AF (cl := [.q, .q, .g, .g]) (A := [0, 0, 1, 7]) (order := [0, 1, 2, 3]) ([blk g5 51 #[.int .i64 code, .int .i64 at']]) mixed (by kernel_rfl) (fun w hw => hw.pick (.cons 0 rfl .nil)) ?_
  refine Yo rfl (AA (cs := #[_, _]) rfl rfl F4 rfl rfl) ?_
  refine Flow.old rfl rfl rfl (Ay (vs := [_, _]) rfl rfl DP B1 rfl (Ak rfl)) ?_
  refine AS rfl rfl rfl rfl (At (cs' := #[_, _]) rfl rfl rfl Bg rfl (TB rfl) rfl) (fun w hw => hw.pick (.cons 0 rfl .nil)) ?_
  refine AS rfl rfl rfl rfl (At (cs' := #[_, _]) rfl rfl rfl B1 rfl (TB rfl) rfl) (fun w hw => hw.pick (.cons 0 rfl .nil)) ?_
  refine Flow.end rfl ?_
  simp only [zq, zr]
  refine Fin.then <| DC.ret <| Aa ?_
  refine Cq (cs := #[_, _]) (cs' := #[_, _]) (.inl rfl) rfl rfl rfl Bn Bg DP B1 ?_
  exact ⟨[slc (.slice none 0 0) 43 2 (prs [])], fun w hw => AX (hw.sub (TH _)), 0, none, 0, 0, code, at', [], rfl, rfl, fun h => by simp at c2; omega, fun h N es hR => by
   obtain ⟨n', ps', h1, _⟩ := hR
   exact hbad h n' ps' h1⟩
 refine DC.skip <| Fin.then <| Zs ?_
 refine Zf Mz ?_
 refine Zl AJ ?_
 refine Zf H3 ?_
 refine Zl Q7 ?_
 refine Seq.rel rfl rfl (Ar en39 rfl rfl rfl (fun w hw => KE (CX hw 2 rfl (by omega)) hpl)) ?_
 rintro _ _ ⟨N', A2, l2, c2', e2, es, rfl, rfl, hmk, hno⟩
 simp only [zs]
 refine Zm ?_
 iterate 2 refine Ze ?_
 refine Zw (AD rfl GM rfl) fun g6 => ?_
 refine Zy (At (cs' := #[_, _]) rfl rfl rfl Bg rfl (TB rfl) rfl) ?_
 refine Za ?_
 refine Zx <| Zs ?_
 refine Zu (Ay (vs := [_, _]) rfl rfl Bn Bg rfl (Ak rfl)) ?_
 refine Zo (AA (cs := #[_, _]) rfl rfl F2 rfl rfl) ?_
 refine Zy (At (cs' := #[_, _]) rfl rfl rfl Bg rfl (TB rfl) rfl) ?_
 refine Zy (At (cs' := #[_, _]) rfl rfl rfl B1 rfl (TB rfl) rfl) ?_
 refine Zx <| DC.ret ?_
 refine Cq (cs := #[_, _]) (cs' := #[_, _]) (.inl rfl) rfl rfl rfl Bn Bg DP B1 ?_
 have hc0 : code = 0 := by simpa using c2
 refine ⟨[slc (.slice A2 l2 c2') 43 2 (prs es)], fun w hw => hw.pick (.cons 1 rfl .nil), N', A2, l2, c2', 0, 0, es, rfl, rfl, fun _ => ⟨n, ps, hok hc0, ?_⟩, by simp⟩
 by_cases he : e2 = 0
 ·exact .inl ⟨(hmk he).1, (hmk he).2⟩
 exact .inr (hno he)
/-- What check.Bytes answers. -/
def BytesR (bs cs : List UInt8) (e : Int) : Prop :=
 ((∀ N es, ¬ ReadR bs N es) ∧ e = 180) ∨ ∃ N es, ReadR bs N es ∧ ((certA cs = none ∧ e = 181) ∨ ∃ pl ls c, certA cs = some (pl, ls, c) ∧ e = chkF N es pl ls c)
theorem BytesR.uniq {bs cs : List UInt8} {e e' : Int} (h : BytesR bs cs e) (h' : BytesR bs cs e') : e = e' := by
 rcases h with ⟨h1, rfl⟩ | ⟨N, es, h1, h2⟩ <;> rcases h' with ⟨h3, rfl⟩ | ⟨N', es', h3, h4⟩
 ·rfl
 ·exact absurd h3 (h1 _ _)
 ·exact absurd h1 (h3 _ _)
 obtain ⟨rfl, rfl⟩ := h1.uniq h3
 rcases h2 with ⟨a, rfl⟩ | ⟨pl, ls, c, a, rfl⟩ <;> rcases h4 with ⟨b, rfl⟩ | ⟨pl', ls', c', b, rfl⟩
 ·rfl
 ·rw [a] at b; cases b
 ·rw [a] at b; cases b
 rw [a] at b; cases b; rfl
theorem F1 {vb vc : Value} {bs cs : List UInt8} {w : World} (hB : ByV w vb bs) (hC : ByV w vc cs) (hp : Pow w) :
  Calls Tryz.prog 19 #[vb, vc] w (Ret w [] fun r M => M = [] ∧ ∃ e, r = .int .i64 e ∧ BytesR bs cs e) := by
 refine Ao (K := []) (args := [_, _]) (L := []) Tryz.func19 rfl Tryz.ntmps19 rfl (Own.start _ _) ?_
 refine Zs ?_
 refine Za ?_
 refine Zx <| Zs ?_
 refine Zm ?_
 refine Seq.rel rfl rfl (Ar RV rfl rfl rfl (fun w hw => GA (hB.keep0 hw))) ?_
 rintro _ _ ⟨N, A, l, c, code, at', es, rfl, rfl, hok, hbad⟩
 simp only [zs]
 refine Zm ?_
 iterate 2 refine Ze ?_
 refine Zw (AD rfl GM rfl) fun g5 => ?_
 refine Zw (AD rfl Iq rfl) fun g6 => ?_
 refine Zy (At (cs' := #[_, _]) rfl rfl rfl Bg rfl (TB rfl) rfl) ?_
 refine Zy (At (cs' := #[_, _]) rfl rfl rfl B1 rfl (TB rfl) rfl) ?_
 refine Zx <| DC.seq <| Zs ?_
 refine Zf Gw ?_
 refine Zl F6 ?_
 refine Zo (BK rfl rfl rfl) ?_
 refine Zx ?_
 refine Zd (fun c2 => ?_) fun c2 => ?_
 ·have hR : BytesR bs cs 180 := .inl ⟨hbad (by simpa using c2), rfl⟩
  refine Zs ?_
  refine Za ?_
  refine Zx <| DC.ret <| Aa ?_
  refine Fin.weak (E' := [(4, _)]) (L' := []) ⟨rfl, trivial⟩ .nil ?_
  refine Zh ?_
  exact ⟨rfl, _, rfl, hR⟩
 have hr : ReadR bs N es := hok (by simpa using c2)
 have hfew := hr.few
 refine DC.skip <| Fin.then <| Zs ?_
 refine Zm ?_
 refine Seq.rel rfl rfl (Ar SI rfl rfl rfl (fun w hw => GL (hC.keep0 hw))) ?_
 rintro _ _ ⟨pl, Av, lv, cv, Au, lu, cu, x, e, ck, ls, ces, rfl, rfl, hyes, hno⟩
 simp only [zs]
 refine Zm ?_
 iterate 3 refine Ze ?_
 refine Zw (AD rfl NK rfl) fun g7 => ?_
 refine Zy (At (cs' := #[_, _, _]) rfl rfl rfl BV rfl (TB rfl) rfl) ?_
 iterate 2 refine Za ?_
 refine Zx <| DC.seq <| Zs ?_
 refine Zm ?_
 refine Zo (BK rfl rfl rfl) ?_
 refine Zx ?_
 refine Zd (fun c5 => ?_) fun c5 => ?_
 ·have hR : BytesR bs cs 181 := .inr ⟨N, es, hr, .inl ⟨hno (by simpa using c5), rfl⟩⟩
  refine Zs ?_
  refine Za ?_
  refine Zx <| DC.ret <| Aa ?_
  refine Fin.weak (E' := [(4, _)]) (L' := []) ⟨rfl, trivial⟩ .nil ?_
  refine Zh ?_
  exact ⟨rfl, _, rfl, hR⟩
 obtain ⟨hcs, hck, hll, hls⟩ := hyes (by simpa using c5)
 refine DC.skip <| Fin.then <| Zs ?_
 refine Zu (Ay (vs := [_, _]) rfl rfl Bn Bg rfl (Ak rfl)) ?_
 refine Zu (Ay (vs := [_, _, _]) rfl rfl CD BV rfl (Ak rfl)) ?_
 refine Seq.rel0 rfl rfl (Ar QZ rfl rfl rfl (fun w hw => DG (CX hw 4 rfl (by omega)) (hck _ _ _ _ 1 hw rfl).1 (hck _ _ _ _ 1 hw rfl).2 (hp.keep0 hw) (fun l hl => Nat.le_trans (Kz hl) (Gx hcs)))) ?_
 rintro _ rfl
 have hR : BytesR bs cs (chkF N es pl ls ces) := .inr ⟨N, es, hr, .inr ⟨pl, ls, ces, hcs, rfl⟩⟩
 refine Za ?_
 refine Zx <| DC.ret ?_
 refine Fin.weak (E' := [(4, _)]) (L' := []) ⟨rfl, trivial⟩ .nil ?_
 refine Zh ?_
 exact ⟨rfl, _, rfl, hR⟩
theorem Ih {vb vc : Value} {bs cs : List UInt8} {w : World} (hB : ByV w vb bs) (hC : ByV w vc cs) (hp : Pow w) :
  Calls Tryz.prog 20 #[vb, vc] w (Ret w [] fun r M => M = [] ∧ ∃ e, r = .bool (decide (e = 0)) ∧ BytesR bs cs e) := by
 refine Ao (K := []) (args := [_, _]) (L := []) Tryz.func20 rfl Tryz.ntmps20 rfl (Own.start _ _) ?_
 refine Zs ?_
 refine Za ?_
 refine Zx <| Zs ?_
 iterate 2 refine Zm ?_
 refine Seq.rel0 rfl rfl (Ar RW rfl rfl rfl (fun w hw => F1 (hB.keep0 hw) (hC.keep0 hw) (hp.keep0 hw))) ?_
 rintro _ ⟨e, rfl, he⟩
 refine Zo (AN rfl rfl rfl) ?_
 refine Za ?_
 refine Zx <| DC.ret ?_
 refine Fin.weak (E' := [(4, _)]) (L' := []) ⟨rfl, trivial⟩ .nil ?_
 refine Zh ?_
 exact ⟨rfl, e, rfl, he⟩
end Go.Fl

namespace Go.Fl
open Go Go.Proofs
open Classical
def es4 : List Pr := [(0, 1), (0, 2), (0, 3), (1, 2), (1, 3), (2, 3)]
def lsA : List (List Int) := [[1, 2, 3], [0, 3, 2], [0, 1, 3], [0, 2, 1]]
def lsB : List (List Int) := [[1, 2, 3], [0, 2, 3], [0, 1, 3], [0, 1, 2]]
def rsA : List (List Int) := [[0, 2, 4], [1, 8, 6], [3, 7, 10], [5, 11, 9]]
def rsB : List (List Int) := [[0, 2, 4], [1, 6, 8], [3, 7, 10], [5, 9, 11]]
theorem RE {v : Nat} {α : Type} {a b c d x : α} (h : [a, b, c, d][v]? = some x) : (v = 0 ∧ x = a) ∨ (v = 1 ∧ x = b) ∨ (v = 2 ∧ x = c) ∨ (v = 3 ∧ x = d) := by
 match v, h with
 | 0, h => simp at h; exact .inl ⟨rfl, h.symm⟩
 | 1, h => simp at h; exact .inr (.inl ⟨rfl, h.symm⟩)
 | 2, h => simp at h; exact .inr (.inr (.inl ⟨rfl, h.symm⟩))
 | 3, h => simp at h; exact .inr (.inr (.inr ⟨rfl, h.symm⟩))
 | v + 4, h => simp at h
theorem Ty {v : Nat} {α : Type} {a b c x : α} (h : [a, b, c][v]? = some x) : (v = 0 ∧ x = a) ∨ (v = 1 ∧ x = b) ∨ (v = 2 ∧ x = c) := by
 match v, h with
 | 0, h => simp at h; exact .inl ⟨rfl, h.symm⟩
 | 1, h => simp at h; exact .inr (.inl ⟨rfl, h.symm⟩)
 | 2, h => simp at h; exact .inr (.inr ⟨rfl, h.symm⟩)
 | v + 3, h => simp at h
theorem NL : Vld 4 es4 where
 lo := by decide
 hi := by decide
 few := by decide
 ok := by
  intro i e h
  match i, h with
  | 0, h => cases h; exact ⟨by decide, by decide, by decide⟩
  | 1, h => cases h; exact ⟨by decide, by decide, by decide⟩
  | 2, h => cases h; exact ⟨by decide, by decide, by decide⟩
  | 3, h => cases h; exact ⟨by decide, by decide, by decide⟩
  | 4, h => cases h; exact ⟨by decide, by decide, by decide⟩
  | 5, h => cases h; exact ⟨by decide, by decide, by decide⟩
  | i + 6, h => simp [es4] at h
 up := by
  intro i a b h k
  match i, h, k with
  | 0, h, k => cases h; cases k; exact .inr ⟨by decide, by decide⟩
  | 1, h, k => cases h; cases k; exact .inr ⟨by decide, by decide⟩
  | 2, h, k => cases h; cases k; exact .inl (by decide)
  | 3, h, k => cases h; cases k; exact .inr ⟨by decide, by decide⟩
  | 4, h, k => cases h; cases k; exact .inl (by decide)
  | i + 5, h, k => simp [es4] at k
theorem To {v : Nat} (h0 : 0 < v) (h : v < 4) : Conn es4 0 v := by
 refine .edge 0 v ?_
 match v, h0, h with
 | 1, _, _ => decide
 | 2, _, _ => decide
 | 3, _, _ => decide
theorem Pk : ncomp 4 es4 = 1 := by
 have e : List.range 4 = [0, 1, 2, 3] := rfl
 unfold ncomp
 rw [e]
 have h0 : ∀ y, y < 0 → ¬ Conn es4 y 0 := fun y h => by omega
 have h1 : ∀ v, 0 < v → v < 4 → ¬ (∀ y, y < v → ¬ Conn es4 y v) := fun v h1 h2 h => h 0 h1 (To h1 h2)
 rw [List.countP_cons, List.countP_cons, List.countP_cons, List.countP_cons, List.countP_nil, if_neg (by simpa using h1 3 (by decide) (by decide)), if_neg (by simpa using h1 2 (by decide) (by decide)), if_neg (by simpa using h1 1 (by decide) (by decide)), if_pos (decide_eq_true h0)]
theorem Sq : isoN 4 es4 = 0 := by decide
def tabF (l : List Int) (h : Nat) : Int := (l[h]?).getD 0
/-- by half-edge the next one -/
def fnA : Nat → Int := tabF [2, 8, 4, 7, 0, 11, 1, 10, 6, 5, 3, 9]
def fnB : Nat → Int := tabF [2, 6, 4, 7, 0, 9, 8, 10, 1, 11, 3, 5]
theorem EZ {f : Nat → Nat} {x m : Nat} (h0 : 0 < m) (h1 : itr f m x = x) (h2 : ∀ k, k < m → x ≤ itr f k x) : Lead f x := by
 intro k
 induction k using Nat.strongRecOn with
 | _ k ih =>
  by_cases hk : k < m
  ·exact h2 k hk
  have := ih (k - m) (by omega)
  have e : itr f k x = itr f (k - m) (itr f m x) := by rw [← D6]; congr 1; omega
  rw [e, h1]; exact this
theorem BF {f : Nat → Nat} {x k : Nat} (h : itr f k x < x) : ¬ Lead f x := fun hl => by have := hl k; omega
theorem RN : facesN es4 fnA = 4 := by
 have h0 : decide (Lead (phi fnA) 0) = true := decide_eq_true (EZ (m := 3) (by decide) (by decide) (by decide))
 have h1 : decide (Lead (phi fnA) 1) = true := decide_eq_true (EZ (m := 3) (by decide) (by decide) (by decide))
 have h2 : decide (Lead (phi fnA) 2) = false := decide_eq_false (BF (k := 2) (by decide))
 have h3 : decide (Lead (phi fnA) 3) = true := decide_eq_true (EZ (m := 3) (by decide) (by decide) (by decide))
 have h4 : decide (Lead (phi fnA) 4) = false := decide_eq_false (BF (k := 2) (by decide))
 have h5 : decide (Lead (phi fnA) 5) = false := decide_eq_false (BF (k := 1) (by decide))
 have h6 : decide (Lead (phi fnA) 6) = true := decide_eq_true (EZ (m := 3) (by decide) (by decide) (by decide))
 have h7 : decide (Lead (phi fnA) 7) = false := decide_eq_false (BF (k := 1) (by decide))
 have h8 : decide (Lead (phi fnA) 8) = false := decide_eq_false (BF (k := 2) (by decide))
 have h9 : decide (Lead (phi fnA) 9) = false := decide_eq_false (BF (k := 1) (by decide))
 have h10 : decide (Lead (phi fnA) 10) = false := decide_eq_false (BF (k := 2) (by decide))
 have h11 : decide (Lead (phi fnA) 11) = false := decide_eq_false (BF (k := 1) (by decide))
 have e : List.range (es4.length * 2) = [0, 1, 2, 3, 4, 5, 6, 7, 8, 9, 10, 11] := rfl
 unfold facesN headsOf
 rw [e, List.length_map]
 simp only [List.filter_cons, List.filter_nil, h0, h1, h2, h3, h4, h5, h6, h7, h8, h9, h10, h11]
 rfl
theorem RM : facesN es4 fnB = 2 := by
 have h0 : decide (Lead (phi fnB) 0) = true := decide_eq_true (EZ (m := 4) (by decide) (by decide) (by decide))
 have h1 : decide (Lead (phi fnB) 1) = true := decide_eq_true (EZ (m := 8) (by decide) (by decide) (by decide))
 have h2 : decide (Lead (phi fnB) 2) = false := decide_eq_false (BF (k := 7) (by decide))
 have h3 : decide (Lead (phi fnB) 3) = false := decide_eq_false (BF (k := 3) (by decide))
 have h4 : decide (Lead (phi fnB) 4) = false := decide_eq_false (BF (k := 2) (by decide))
 have h5 : decide (Lead (phi fnB) 5) = false := decide_eq_false (BF (k := 1) (by decide))
 have h6 : decide (Lead (phi fnB) 6) = false := decide_eq_false (BF (k := 3) (by decide))
 have h7 : decide (Lead (phi fnB) 7) = false := decide_eq_false (BF (k := 6) (by decide))
 have h8 : decide (Lead (phi fnB) 8) = false := decide_eq_false (BF (k := 5) (by decide))
 have h9 : decide (Lead (phi fnB) 9) = false := decide_eq_false (BF (k := 1) (by decide))
 have h10 : decide (Lead (phi fnB) 10) = false := decide_eq_false (BF (k := 2) (by decide))
 have h11 : decide (Lead (phi fnB) 11) = false := decide_eq_false (BF (k := 4) (by decide))
 have e : List.range (es4.length * 2) = [0, 1, 2, 3, 4, 5, 6, 7, 8, 9, 10, 11] := rfl
 unfold facesN headsOf
 rw [e, List.length_map]
 simp only [List.filter_cons, List.filter_nil, h0, h1, h2, h3, h4, h5, h6, h7, h8, h9, h10, h11]
 rfl
theorem RJ : genus2 4 es4 fnA = 0 := by unfold genus2; rw [Pk, Sq, RN]; rfl
theorem RI : genus2 4 es4 fnB = 2 := by unfold genus2; rw [Pk, Sq, RM]; rfl
theorem Gt {es : List Pr} {u v x : Int} (h : rhalfF u v 0 es = x) (hx : x ≠ -1) : IsHalf es u v x := by
 rcases Md (es := es) u v with h1 | ⟨h1, _⟩
 ·rw [h] at h1; exact h1
 omega
theorem PA {es : List Pr} {v : Nat} {l : List Int} (h : ∀ u, u ∈ l → rhalfF v u 0 es ≠ -1) : ∀ u, u ∈ l → ∃ h, IsHalf es v u h := fun u hu => ⟨_, Gt rfl (h u hu)⟩
theorem RA : RotOk 4 es4 lsA := by
 refine ⟨NL, by decide, fun v l hl => ?_⟩
 rcases RE hl with ⟨rfl, rfl⟩ | ⟨rfl, rfl⟩ | ⟨rfl, rfl⟩ | ⟨rfl, rfl⟩ <;> exact ⟨PA (by decide), by decide, by decide⟩
theorem OY : RotOk 4 es4 lsB := by
 refine ⟨NL, by decide, fun v l hl => ?_⟩
 rcases RE hl with ⟨rfl, rfl⟩ | ⟨rfl, rfl⟩ | ⟨rfl, rfl⟩ | ⟨rfl, rfl⟩ <;> exact ⟨PA (by decide), by decide, by decide⟩
theorem Sk : RotR es4 lsA rsA := by
 refine ⟨rfl, fun v l r hl hr => ?_⟩
 rcases RE hl with ⟨rfl, rfl⟩ | ⟨rfl, rfl⟩ | ⟨rfl, rfl⟩ | ⟨rfl, rfl⟩ <;> cases hr <;> refine ⟨rfl, fun j u h hj hk => ?_⟩ <;> rcases Ty hj with ⟨rfl, rfl⟩ | ⟨rfl, rfl⟩ | ⟨rfl, rfl⟩ <;> cases hk <;> exact Gt (by decide) (by decide)
theorem Sj : RotR es4 lsB rsB := by
 refine ⟨rfl, fun v l r hl hr => ?_⟩
 rcases RE hl with ⟨rfl, rfl⟩ | ⟨rfl, rfl⟩ | ⟨rfl, rfl⟩ | ⟨rfl, rfl⟩ <;> cases hr <;> refine ⟨rfl, fun j u h hj hk => ?_⟩ <;> rcases Ty hj with ⟨rfl, rfl⟩ | ⟨rfl, rfl⟩ | ⟨rfl, rfl⟩ <;> cases hk <;> exact Gt (by decide) (by decide)
theorem So : NxOk rsA rsA.length fnA := by
 intro x l i h hx hl hi
 rcases RE hl with ⟨rfl, rfl⟩ | ⟨rfl, rfl⟩ | ⟨rfl, rfl⟩ | ⟨rfl, rfl⟩ <;> rcases Ty hi with ⟨rfl, rfl⟩ | ⟨rfl, rfl⟩ | ⟨rfl, rfl⟩ <;> rfl
theorem Sn : NxOk rsB rsB.length fnB := by
 intro x l i h hx hl hi
 rcases RE hl with ⟨rfl, rfl⟩ | ⟨rfl, rfl⟩ | ⟨rfl, rfl⟩ | ⟨rfl, rfl⟩ <;> rcases Ty hi with ⟨rfl, rfl⟩ | ⟨rfl, rfl⟩ | ⟨rfl, rfl⟩ <;> rfl
theorem Sv : FlatP 4 es4 lsA := ⟨rsA, fnA, Sk, So, RJ⟩
theorem Su : ¬ FlatP 4 es4 lsB := by
 rintro ⟨rs, fn, h1, h2, h3⟩
 have := IR NL h1 Sj
 subst this
 have h4 := HY (n := 4) (GV OY h1) h2 Sn
 rw [h3, RI] at h4
 omega
theorem K1 {ls : List (List Int)} (h1 : ls.length ≤ 4) (h : ∀ l, l ∈ ls → ∀ n, n ∈ l → Fits n ∧ ∀ a, l[0]? = some a → a ≤ n) : ListsOk ls := by
 refine ⟨by omega, fun i l hl j n a hj ha => ?_⟩
 have := h l (TD hl) n (TD hj)
 exact ⟨this.1, this.2 a ha⟩
theorem Gr {ls : List (List Int)} (h : ∀ l, l ∈ ls → l.length ≤ 3 ∧ ∀ a, a ∈ l → I64 a) : (ls.map lineB).flatten.length ≤ 100 * ls.length := by
 induction ls with
 | nil => simp
 | cons l r ih =>
  have h1 := h l (TI ..)
  have h2 := CS h1.2
  have h3 := ih (fun l' hl => h l' (TM _ hl))
  simp only [List.map_cons, List.flatten_cons, List.length_append, List.length_cons]
  omega
theorem Sd : TextOk true lsA [] := by
 refine ⟨⟨rfl, K1 (by decide) (by unfold Fits; decide)⟩, ?_⟩
 have h1 := Dg (letter := [112]) (n := 4) rfl (by decide)
 have h2 := Gr (ls := lsA) (by unfold I64; decide)
 have h3 : lsA.length = 4 := rfl
 simp only [certB, textB, List.length_append, if_true, List.length_map, h3] at h1 h2 ⊢
 omega
theorem Rx : TextOk true lsB [] := by
 refine ⟨⟨rfl, K1 (by decide) (by unfold Fits; decide)⟩, ?_⟩
 have h1 := Dg (letter := [112]) (n := 4) rfl (by decide)
 have h2 := Gr (ls := lsB) (by unfold I64; decide)
 have h3 : lsB.length = 4 := rfl
 simp only [certB, textB, List.length_append, if_true, List.length_map, h3] at h1 h2 ⊢
 omega
def cs4 : List Pr := [(0, 1), (0, 4)]
theorem Sc : TextOk false [] cs4 := by
 refine ⟨⟨rfl, ⟨by decide, fun i e h => ?_, fun i a b h k => ?_⟩⟩, ?_⟩
 ·match i, h with
  | 0, h => cases h; unfold Fits; decide
  | 1, h => cases h; unfold Fits; decide
  | i + 2, h => simp [cs4] at h
 ·match i, h, k with
  | 0, h, k => cases h; cases k; exact .inr ⟨rfl, by decide⟩
  | i + 1, h, k => simp [cs4] at k
 have h1 := Dg (letter := [110]) (n := 2) rfl (by decide)
 have h2 := Gr (ls := [[0, 1], [0, 4]]) (by unfold I64; decide)
 simp only [certB, textB, List.length_append, List.length_map, cs4, List.map_cons, List.map_nil, List.length_cons, List.length_nil] at h1 h2 ⊢
 simp only [Bool.false_eq_true, if_false, List.length_append]
 simp at h1 h2 ⊢
 omega
theorem chkA : chkF 4 es4 true lsA [] = 0 := by
 unfold chkF
 rw [if_neg (not_not_intro NL), if_neg (not_not_intro Sd), if_pos rfl, if_neg (not_not_intro RA), if_neg (not_not_intro (show FlatP (4 : Int).toNat es4 lsA from Sv))]
theorem chkB : chkF 4 es4 true lsB [] = 183 := by
 unfold chkF
 rw [if_neg (not_not_intro NL), if_neg (not_not_intro Rx), if_pos rfl, if_neg (not_not_intro OY), if_pos (show ¬ FlatP (4 : Int).toNat es4 lsB from Su)]
theorem chkC : chkF 4 es4 false [] cs4 = 184 := by
 unfold chkF
 rw [if_neg (not_not_intro NL), if_neg (not_not_intro Sc), if_neg (by decide), if_pos]
 intro h
 have := h (0, 4) (by decide)
 revert this; decide
/-- "1 1\n0 1\n" -/
def txt4 : List UInt8 := [49, 32, 49, 10, 48, 32, 49, 10]
theorem raw4 : rawF txt4 = .bad 24 6 := by
 simp [rawF, scanA, txt4, scanF, isDig, digs, decF, feedF, lineF, endF]
end Go.Fl
