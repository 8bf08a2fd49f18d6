/- The last part: The law CheckFlat, where what it reads is of bulk at most 1048576: true, and the input reads as it did; the three tables of the library that it lists are tied to the text of the program. -/
import Derived.Test.YthjmapekjggdjaaGreatDoorZF4
set_option linter.unusedVariables false
set_option linter.unusedSimpArgs false
set_option linter.unusedSectionVars false
set_option maxRecDepth 100000
namespace Go.Fl
open Go Go.Proofs
theorem IY {n : Nat} {w : World} (hn : n ≤ 1048576) :
  Calls Tryz.prog 117 #[.int .i64 n] w (Ret w [] fun r M => ∃ A c, r = .tuple #[.slice A n c, .int .i64 0] ∧ M = [slc (.slice A n c) 3 1 (ints (tab n (nat fun x => x)))]) := by
 refine At (K := []) (args := [_]) (L := []) Tryz.func117 rfl Tryz.ntmps117 rfl (Own.start _ _) ?_
 refine Zs ?_
 refine Za ?_
 refine Za ?_
 refine Zx <| DC.seq <| Zs ?_
 refine Zm ?_
 refine Zc ?_
 refine Zm ?_
 refine Seq.split 8 rfl (fun k1_2 => ?_) (fun k1_2 => ?_)
 ·simp at k1_2
  omega
 ·refine Zm ?_
  refine Zo (BH rfl rfl rfl) ?_
  refine Zg ?_
  refine Zx ?_
  refine Zd (fun c1 => ?_) fun c1 => ?_
  ·simp at c1
   omega
  ·refine DC.skip <| Fin.then <| Zs ?_
   refine Za ?_
   refine Zx <| DC.seq <| Zs ?_
   refine Za ?_
   refine Zx <| DC.block ?_
   refine DC.own (fun w hw => Bm (t := 3) (m := 1) hw) ?_
   refine DC.loop (ι := Nat × Value) (fun j => j.1 ≤ n) (fun j => [(0, .int .i64 n), (4, j.2), (5, .int .i64 (j.1 : Nat))]) (fun j => [slc j.2 3 1 (ints (tab j.1 (nat fun x => x)))]) (fun j => n - j.1) (0, .slice none 0 0) (Nat.zero_le _) ⟨rfl, rfl, rfl, trivial⟩ (.cons 0 rfl .nil) ?_
   rintro ⟨i, v⟩ hi
   dsimp only at hi ⊢
   refine DC.seq <| Zs ?_
   refine Zm ?_
   refine Zm ?_
   refine Zc ?_
   refine Zx ?_
   refine Zd (fun c5 => ?_) fun c5 => ?_
   ·have hlt : i < n := by simpa using c5
    refine DC.skip <| Fin.then <| DC.seq <| DC.block <| DC.region ?_
    refine Zm ?_
    refine Zm ?_
    refine Zw (AP (cs := #[_]) rfl rfl Tryz.underlying44 AN B6 rfl (by decide) (by decide) rfl rfl) fun g19 => ?_
    refine Seq.gen rfl rfl (AR (F := [blk g19 3 #[.int .i64 (i : Nat)]]) (vs := ints (tab i (nat fun x => x))) (k := 1) (news := [.int .i64 (i : Nat)]) rfl rfl rfl Tryz.underlying44 AN DP B6 rfl (by decide) (by decide)
     (fun w hw => hw.pick (.cons 1 rfl (.cons 0 rfl .nil))) (.inl ⟨_, _, rfl, Ak rfl⟩) rfl (Br [(i : Int)] []) (by simp; omega)) ?_
    rintro v20 _ rfl
    refine Za ?_
    refine Seq.nil <| Fin.inBlock <| Fin.then <| DC.region ?_
    refine Zm ?_
    refine Zp ?_
    refine Za ?_
    refine Seq.nil ?_
    refine Fin.again (i + 1, v20) (by dsimp only; omega) (by dsimp only; omega) ⟨rfl, rfl, rfl, trivial⟩ (.cons' 0 rfl (by dsimp only; unfold tab; rw [List.range_succ, List.map_append, A4]; rfl) .nil)
   ·refine DC.exit <| Ad <| Ad <| Ag <| Fin.then <| Zs ?_
    refine Zm ?_
    refine Za ?_
    refine Za ?_
    refine Zx <| DC.ret ?_
    have hin : i = n := by simp at c5; omega
    subst hin
    refine Fin.weak (E' := [(2, _), (3, _)]) ⟨rfl, rfl, trivial⟩ (.cons 0 rfl .nil) ?_
    refine Fin.slcs (i := 0) rfl (by simp; omega) ?_
    rintro A c rfl _
    rw [tab_length]
    refine AJ (.inl rfl) rfl rfl rfl ?_
    exact ⟨A, c, rfl, rfl⟩
/-! ### labels that fall till nothing changes -/
def sumN (n : Nat) (l : Nat → Nat) : Nat := ((List.range n).map l).sum
theorem Gg {l : Nat → Nat} {a x : Nat} (hx : x < l a) : ∀ {n : Nat}, a < n → sumN n (updN l a x) + 1 ≤ sumN n l
 | 0, h => by omega
 | n + 1, h => by
  unfold sumN
  rw [List.range_succ, List.map_append, List.map_append, List.sum_append, List.sum_append]
  simp only [List.map_cons, List.map_nil, List.sum_cons, List.sum_nil, Nat.add_zero]
  by_cases e : a = n
  ·subst e
   have : (List.range a).map (updN l a x) = (List.range a).map l := List.map_congr_left fun y hy => by
    have := List.mem_range.1 hy
    unfold updN; rw [if_neg (by omega)]
   rw [this]
   have : updN l a x a = x := by simp [updN]
   omega
  ·have ih := Gg (n := n) hx (by omega)
   unfold sumN at ih
   have : updN l a x n = l n := by unfold updN; rw [if_neg (by omega)]
   omega
structure LbI where
 l : Nat → Nat
 ch : Bool
structure LbJ where
 i : Nat
 l : Nat → Nat
 ch : Bool
/-- Labels lie below, in the same part. -/
def LbP (es : List Pr) (l : Nat → Nat) : Prop := ∀ x, l x ≤ x ∧ Conn es (l x) x
theorem lbp_id (es : List Pr) : LbP es fun x => x := fun x => ⟨Nat.le_refl _, .refl _⟩
theorem Lk {es : List Pr} {l : Nat → Nat} {a b : Nat} (h : LbP es l) (hc : Conn es b a) (hlt : l b < l a) : LbP es (updN l a (l b)) := by
 intro x
 unfold updN
 split
 ·rename_i e; subst e
  exact ⟨by have := (h x).1; omega, (h b).2.trans hc⟩
 ·exact h x
theorem lb_conn {es : List Pr} {l : Nat → Nat} (he : ∀ a b : Nat, ((a : Int), (b : Int)) ∈ es → l a = l b) {a b : Nat} (h : Conn es a b) : l a = l b := by
 induction h with
 | refl => rfl
 | edge u v h => exact he u v h
 | symm _ ih => exact ih.symm
 | trans _ _ ih1 ih2 => exact ih1.trans ih2
theorem lb_least {es : List Pr} {l : Nat → Nat} (h : LbP es l) (he : ∀ a b : Nat, ((a : Int), (b : Int)) ∈ es → l a = l b) (v : Nat) : l v = v ↔ ∀ y, y < v → ¬ Conn es y v := by
 constructor
 ·intro hv y hy hc
  have := lb_conn he hc
  have := (h y).1
  omega
 ·intro hno
  have h1 := (h v).1
  rcases Nat.lt_or_eq_of_le h1 with h2 | h2
  ·exact absurd (h v).2 (hno _ h2)
  ·exact h2
theorem edge_ends {n : Nat} {es : List Pr} (hV : Vld n es) {i : Nat} {e : Pr} (he : es[i]? = some e) : ∃ a b : Nat, e = ((a : Int), (b : Int)) ∧ a < b ∧ b < n := CY hV (List.mem_of_getElem? he)
structure OuI where
 v : Nat
 k : Nat
 o : Nat → Int
open Classical in
theorem Kd {n : Nat} {es : List Pr} {va : Value} {w : World} (hg : PrV w va es) (hV : Vld n es) :
  Calls Tryz.prog 92 #[.agg #[.int .i64 n, va]] w (Ret w [] fun r M => ∃ v, r = .tuple #[v, .int .i64 (ncomp n es : Nat), .int .i64 0]) := by
 have hfew := hV.few
 have hnm := hV.hi
 have hg0 := hg
 obtain ⟨A, cap, rfl, hr, hlc, hcm, hle⟩ := hg
 refine At (K := []) (args := [_]) (L := []) Tryz.func92 rfl Tryz.ntmps92 rfl (Own.start _ _) ?_
 refine Zs ?_
 refine Zw (AS rfl rfl rfl) fun g1 => ?_
 refine Za ?_
 refine Za ?_
 refine Za ?_
 refine Zx <| DC.seq <| Zs ?_
 refine Zu (Ay (vs := [_, _]) rfl rfl Bj Bc rfl (Ak rfl)) ?_
 refine Seq.rel0 rfl rfl (Aq en14 rfl rfl rfl (fun w hw => Db (hg0.keep0 hw))) ?_
 rintro _ ⟨bv, rfl, hbv⟩
 refine Zo (Bh rfl rfl) ?_
 refine Zx ?_
 refine Zd (fun c1 => ?_) fun c1 => ?_
 ·rw [hbv.2 hV] at c1
  simp at c1
 ·refine DC.skip <| Fin.then <| Zs ?_
  refine Zf BF ?_
  refine Zl AO ?_
  refine Seq.rel rfl rfl (Aq en117 rfl rfl rfl (fun w hw => IY (by omega))) ?_
  rintro _ _ ⟨As, cs, rfl, rfl⟩
  refine Zm ?_
  refine Ze ?_
  refine Ze ?_
  refine Za ?_
  refine Za ?_
  refine Zx <| DC.seq ?_
  simp only [List.cons_append, List.nil_append]
  refine DC.rdI 0 rfl ?_
  intro hAs
  rw [tab_length] at hAs
  refine DC.region ?_
  refine Za ?_
  refine Zx <| DC.seq <| DC.block ?_
  refine DC.loop (ι := LbI) (fun j => LbP es j.l ∧ (j.ch = false → ∀ (k : Nat) (a b : Nat), es[k]? = some ((a : Int), (b : Int)) → j.l a = j.l b)) (fun j => [(1, .pointer (some ⟨g1, 0, none⟩)), (5, .slice As n cs), (7, .bool j.ch)]) (fun j => [slc (.slice As n cs) 3 1 (ints (tab n (nat j.l))), blk g1 24 #[.int .i64 n, .slice A es.length cap]])
   (fun j => 2 * sumN n j.l + if j.ch = true then 1 else 0) ⟨fun x => x, true⟩ ⟨lbp_id es, fun h => by cases h⟩ ⟨rfl, rfl, rfl, trivial⟩ (.cons 0 rfl (.cons 0 rfl .nil)) ?_
  rintro ⟨l, ch⟩ ⟨hP, hch⟩
  dsimp only at hP hch ⊢
  refine DC.seq <| Zs ?_
  refine Zm ?_
  refine Zx ?_
  refine Zd (fun c5 => ?_) fun c5 => ?_
  ·have hct : ch = true := c5
   subst hct
   refine DC.skip <| Fin.then <| DC.block <| Zs ?_
   refine Za ?_
   refine Zx <| Zs ?_
   refine Za ?_
   refine Zx <| DC.block ?_
   refine DC.loop (ι := LbJ) (fun j => j.i ≤ es.length ∧ LbP es j.l ∧ sumN n j.l + (if j.ch = true then 1 else 0) ≤ sumN n l ∧ (j.ch = false → j.l = l ∧ ∀ (k : Nat) (a b : Nat), k < j.i → es[k]? = some ((a : Int), (b : Int)) → l a = l b)) (fun j => [(1, .pointer (some ⟨g1, 0, none⟩)), (5, .slice As n cs), (7, .bool j.ch), (8, .int .i64 (j.i : Nat))]) (fun j => [slc (.slice As n cs) 3 1 (ints (tab n (nat j.l))), blk g1 24 #[.int .i64 n, .slice A es.length cap]])
    (fun j => es.length - j.i) ⟨0, l, false⟩ ⟨Nat.zero_le _, hP, by simp, fun _ => ⟨rfl, fun k a b h => absurd h (Nat.not_lt_zero _)⟩⟩ ⟨rfl, rfl, rfl, rfl, trivial⟩ (.cons 0 rfl (.cons 0 rfl .nil)) ?_
   rintro ⟨i, l', ch⟩ ⟨hi, hP', hS, hsame⟩
   dsimp only at hi hP' hS hsame ⊢
   refine DC.seq <| Zs ?_
   refine Zm ?_
   refine Zf Be ?_
   refine Zl BO ?_
   refine Zn Tryz.underlying22 ?_
   refine Zc ?_
   refine Zx ?_
   refine Zd (fun c8 => ?_) fun c8 => ?_
   ·have hlt : i < es.length := by simpa using c8
    obtain ⟨e, he⟩ : ∃ e, es[i]? = some e := ⟨_, List.getElem?_eq_getElem hlt⟩
    obtain ⟨ad, rfl, hU, hVe⟩ := hr.pair he
    obtain ⟨a, b, rfl, hab, hbn⟩ := edge_ends hV he
    dsimp only at hU hVe
    obtain ⟨ax, rfl⟩ := hAs (by omega)
    have hcon : Conn es a b := .edge a b (List.mem_of_getElem? he)
    refine DC.skip <| Fin.then <| DC.seq <| DC.block <| DC.seq ?_
    refine AG (cl := [.q, .v, .q, .q, .q, .v, .q, .v, .q, .q, .q, .v, .q, .q]) (A := [0, 1, 0, 7, 15, 31, 0, 64, 0, 448, 960, 1984, 63, 8191]) (order := [0, 1, 2, 3, 4, 5, 6, 7, 8, 9, 10, 11, 12, 13]) [] mixed (by kernel_rfl) (fun w hw => hw.pick .nil) ?_
    refine Yf Be ?_
    refine Yl BO ?_
    refine Ym ?_
    refine Yo rfl (AQ (ad' := ad.add (i * 2)) rfl rfl rfl Tryz.underlying22 Bb (by omega) (by omega) rfl) ?_
    refine Yo rfl (CL (ad' := ad.add (i * 2)) rfl rfl Bd (by simp [Addr.add])) ?_
    refine Am rfl rfl rfl rfl (Ah rfl rfl AO (AE hU)) ?_
    refine Yf Be ?_
    refine Yl BO ?_
    refine Ym ?_
    refine Yo rfl (AQ (ad' := ad.add (i * 2)) rfl rfl rfl Tryz.underlying22 Bb (by omega) (by omega) rfl) ?_
    refine Yo rfl (CL (ad' := ad.add (i * 2 + 1)) rfl rfl Bu (DK _ _ _ (by decide))) ?_
    refine Am rfl rfl rfl rfl (Ah rfl rfl AO (AE hVe)) ?_
    refine Yo rfl (Aw rfl rfl) ?_
    refine Yo rfl (Aw rfl rfl) ?_
    refine Flow.end rfl ?_
    simp only [zq, zr]
    refine Fin.then ?_
    refine DC.cut (ι := LbI) (fun j => LbP es j.l ∧ sumN n j.l + (if j.ch = true then 1 else 0) ≤ sumN n l ∧ (j.ch = false → j.l = l ∧ (∀ (k : Nat) (a b : Nat), k < i → es[k]? = some ((a : Int), (b : Int)) → l a = l b) ∧ ¬ l b < l a)) (fun j => [(1, .pointer (some ⟨g1, 0, none⟩)), (5, .slice (some ax) n cs), (7, .bool j.ch), (8, .int .i64 (i : Nat)), (9, .int .i64 (a : Nat)), (10, .int .i64 (b : Nat))]) (fun j => [slc (.slice (some ax) n cs) 3 1 (ints (tab n (nat j.l))), blk g1 24 #[.int .i64 n, .slice (some ad) es.length cap]]) ?first13 ?rest13
    case first13 =>
     refine DC.seq ?_
     refine AG (cl := [.q, .q, .q, .v, .q, .q, .q, .v, .q]) (A := [0, 0, 3, 7, 0, 0, 48, 112, 255]) (order := [0, 1, 2, 3, 4, 5, 6, 7, 8]) [] mixed (by kernel_rfl) (fun w hw => hw.pick .nil) ?_
     refine Ym ?_
     refine Ym ?_
     refine Yo rfl (Ai (ad' := ax.add a) rfl rfl rfl Tryz.underlying44 AN (by omega) (by omega) (by rw [Int.toNat_natCast])) ?_
     refine Am rfl rfl rfl rfl (Ah rfl rfl AO ((fun w hw => B8 (i := 0) rfl w hw a _ (BW (Bp (nat l') (by omega)))))) ?_
     refine Ym ?_
     refine Ym ?_
     refine Yo rfl (Ai (ad' := ax.add b) rfl rfl rfl Tryz.underlying44 AN (by omega) (by omega) (by rw [Int.toNat_natCast])) ?_
     refine Am rfl rfl rfl rfl (Ah rfl rfl AO ((fun w hw => B8 (i := 0) rfl w hw b _ (BW (Bp (nat l') (by omega)))))) ?_
     refine Yo rfl (BH rfl rfl rfl) ?_
     refine Flow.end rfl ?_
     simp only [zq, zr]
     refine Fin.then ?_
     refine Zd (fun c11 => ?_) fun c11 => ?_
     ·have hba : l' b < l' a := by simp [nat] at c11; omega
      refine Zs ?_
      refine Zm ?_
      refine Zm ?_
      refine Zm ?_
      refine Zm ?_
      refine Zo (Ai (ad' := ax.add b) rfl rfl rfl Tryz.underlying44 AN (by omega) (by omega) (by rw [Int.toNat_natCast])) ?_
      refine Zu (Ah rfl rfl AO ((fun w hw => B8 (i := 0) rfl w hw b _ (BW (Bp (nat l') (by omega)))))) ?_
      refine Zo (Ai (ad' := ax.add a) rfl rfl rfl Tryz.underlying44 AN (by omega) (by omega) (by rw [Int.toNat_natCast])) ?_
      refine Zy (Gl (i := 0) rfl rfl rfl rfl AN (by simp; omega)) ?_
      refine Seq.nil ?_
      simp only [List.set_cons_zero]
      rw [CJ, show nat l' b = ((l' b : Nat) : Int) from rfl, F1]
      refine Fin.then <| DC.region ?_
      refine Za ?_
      refine Seq.nil ?_
      refine AZ ⟨updN l' a (l' b), true⟩ ⟨Lk hP' hcon.symm hba, ?_, fun h => by cases h⟩ ⟨rfl, rfl, rfl, rfl, rfl, rfl, trivial⟩ (.cons 0 rfl (.cons 0 rfl .nil))
      have hS1 := Gg hba (show a < n by omega)
      have : (if true = true then 1 else 0) = 1 := rfl
      dsimp only
      rw [this]
      have : sumN n l' ≤ sumN n l := by omega
      omega
     ·refine DC.skip ?_
      have hba : ¬ l' b < l' a := by simp [nat] at c11; omega
      refine AZ ⟨l', ch⟩ ⟨hP', hS, fun h => ⟨(hsame h).1, (hsame h).2, by rw [← (hsame h).1]; exact hba⟩⟩ ⟨rfl, rfl, rfl, rfl, rfl, rfl, trivial⟩ (.cons 0 rfl (.cons 0 rfl .nil))
    case rest13 =>
     rintro ⟨l2, ch2⟩ ⟨hP2, hS2, hs2⟩
     dsimp only at hP2 hS2 hs2 ⊢
     refine DC.seq ?_
     refine AG (cl := [.q, .q, .q, .v, .q, .q, .q, .v, .q]) (A := [0, 0, 3, 7, 0, 0, 48, 112, 255]) (order := [0, 1, 2, 3, 4, 5, 6, 7, 8]) [] mixed (by kernel_rfl) (fun w hw => hw.pick .nil) ?_
     refine Ym ?_
     refine Ym ?_
     refine Yo rfl (Ai (ad' := ax.add b) rfl rfl rfl Tryz.underlying44 AN (by omega) (by omega) (by rw [Int.toNat_natCast])) ?_
     refine Am rfl rfl rfl rfl (Ah rfl rfl AO ((fun w hw => B8 (i := 0) rfl w hw b _ (BW (Bp (nat l2) (by omega)))))) ?_
     refine Ym ?_
     refine Ym ?_
     refine Yo rfl (Ai (ad' := ax.add a) rfl rfl rfl Tryz.underlying44 AN (by omega) (by omega) (by rw [Int.toNat_natCast])) ?_
     refine Am rfl rfl rfl rfl (Ah rfl rfl AO ((fun w hw => B8 (i := 0) rfl w hw a _ (BW (Bp (nat l2) (by omega)))))) ?_
     refine Yo rfl (BH rfl rfl rfl) ?_
     refine Flow.end rfl ?_
     simp only [zq, zr]
     refine Fin.then ?_
     refine Zd (fun c14 => ?_) fun c14 => ?_
     ·have hba : l2 a < l2 b := by simp [nat] at c14; omega
      refine Zs ?_
      refine Zm ?_
      refine Zm ?_
      refine Zm ?_
      refine Zm ?_
      refine Zo (Ai (ad' := ax.add a) rfl rfl rfl Tryz.underlying44 AN (by omega) (by omega) (by rw [Int.toNat_natCast])) ?_
      refine Zu (Ah rfl rfl AO ((fun w hw => B8 (i := 0) rfl w hw a _ (BW (Bp (nat l2) (by omega)))))) ?_
      refine Zo (Ai (ad' := ax.add b) rfl rfl rfl Tryz.underlying44 AN (by omega) (by omega) (by rw [Int.toNat_natCast])) ?_
      refine Zy (Gl (i := 0) rfl rfl rfl rfl AN (by simp; omega)) ?_
      refine Seq.nil ?_
      simp only [List.set_cons_zero]
      rw [CJ, show nat l2 a = ((l2 a : Nat) : Int) from rfl, F1]
      refine Fin.then <| DC.region ?_
      refine Za ?_
      refine Seq.nil <| Fin.inBlock <| Fin.then <| DC.region ?_
      refine Zm ?_
      refine Zp ?_
      refine Za ?_
      refine Seq.nil ?_
      refine Fin.again ⟨i + 1, updN l2 b (l2 a), true⟩ (by dsimp only; omega) ⟨by dsimp only; omega, Lk hP2 hcon hba, ?_, fun h => by cases h⟩ ⟨rfl, rfl, rfl, rfl, trivial⟩ (.cons 0 rfl (.cons 0 rfl .nil))
      have hS1 := Gg hba hbn
      have : (if true = true then 1 else 0) = 1 := rfl
      dsimp only
      rw [this]
      have : sumN n l2 ≤ sumN n l := by omega
      omega
     ·refine DC.skip <| Fin.inBlock <| Fin.then <| DC.region ?_
      refine Zm ?_
      refine Zp ?_
      refine Za ?_
      refine Seq.nil ?_
      have hba : ¬ l2 a < l2 b := by simp [nat] at c14; omega
      refine Fin.again ⟨i + 1, l2, ch2⟩ (by dsimp only; omega) ⟨by dsimp only; omega, hP2, hS2, fun h => ?_⟩ ⟨rfl, rfl, rfl, rfl, trivial⟩ (.cons 0 rfl (.cons 0 rfl .nil))
      obtain ⟨h1, h2, h3⟩ := hs2 h
      subst h1
      refine ⟨rfl, fun k a' b' hk hke => ?_⟩
      rcases Nat.lt_succ_iff_lt_or_eq.1 hk with hk | rfl
      ·exact h2 k a' b' hk hke
      ·rw [he] at hke
       have h4 := (Prod.mk.inj (Option.some.inj hke))
       have : a = a' := by omega
       have : b = b' := by omega
       subst a' b'
       omega
   ·refine DC.exit <| Ad <| Ad <| Ag <| Fin.inBlock ?_
    have hil : i = es.length := by simp at c8; omega
    subst hil
    refine Fin.again ⟨l', ch⟩ ?_ ⟨hP', fun h k a b hk => ?_⟩ ⟨rfl, rfl, rfl, trivial⟩ (.cons 0 rfl (.cons 0 rfl .nil))
    ·dsimp only
     by_cases h : ch = true
     ·rw [if_pos h] at hS ⊢; simp; omega
     ·rw [if_neg h] at hS ⊢; simp; omega
    ·obtain ⟨h1, h2⟩ := hsame h
     dsimp only at h1 ⊢
     rw [h1]
     exact h2 k a b (List.getElem?_eq_some_iff.1 hk).1 hk
  ·refine DC.exit <| Ad <| Ad <| Ag <| Fin.then <| DC.seq ?_
   have hcf : ch = false := by simpa using c5
   have hall : ∀ a b : Nat, ((a : Int), (b : Int)) ∈ es → l a = l b := fun a b h => by
    obtain ⟨k, hk⟩ := List.mem_iff_getElem?.1 h
    exact hch hcf k a b hk
   refine DC.region ?_
   refine Zf BF ?_
   refine Zl AO ?_
   refine Zw (BI (k := n) rfl rfl rfl Tryz.underlying44 AN DP B6 rfl (by omega) (by omega) (B4 _)) fun g77 => ?_
   refine Za ?_
   refine Zx <| Zs ?_
   refine Za ?_
   refine Zx <| DC.seq <| Zs ?_
   refine Za ?_
   refine Zx <| DC.block ?_
   refine DC.loop (ι := OuI) (fun j => j.v ≤ n ∧ j.k = (List.range j.v).countP (fun v => decide (l v = v))) (fun j => [(1, .pointer (some ⟨g1, 0, none⟩)), (5, .slice As n cs), (11, .slice (some ⟨g77, 0, none⟩) n n), (12, .int .i64 (j.k : Nat)), (13, .int .i64 (j.v : Nat))])
    (fun j => [blk g77 3 (ints (tab n j.o)).toArray, slc (.slice As n cs) 3 1 (ints (tab n (nat l))), blk g1 24 #[.int .i64 n, .slice A es.length cap]]) (fun j => n - j.v) ⟨0, 0, fun _ => 0⟩ ⟨Nat.zero_le _, rfl⟩ ⟨rfl, rfl, rfl, rfl, rfl, trivial⟩ (.cons 0 rfl (.cons 0 rfl (.cons 0 rfl .nil))) ?_
   rintro ⟨x, k, o⟩ ⟨hx, hk⟩
   dsimp only at hx hk ⊢
   have hkx : k ≤ x := by
    have := List.countP_le_length (p := fun v => decide (l v = v)) (l := List.range x)
    rw [← hk] at this; simpa using this
   have hks : (List.range (x + 1)).countP (fun v => decide (l v = v)) = k + if l x = x then 1 else 0 := by
    rw [List.range_succ, List.countP_append, ← hk]
    by_cases h : l x = x <;> simp [h]
   refine DC.seq <| Zs ?_
   refine Zm ?_
   refine Zf BF ?_
   refine Zl AO ?_
   refine Zc ?_
   refine Zx ?_
   refine Zd (fun c20 => ?_) fun c20 => ?_
   ·have hxn : x < n := by simpa using c20
    obtain ⟨ax, rfl⟩ := hAs (by omega)
    have hlx := (hP x).1
    refine DC.skip <| Fin.then <| DC.seq <| DC.block <| Zs ?_
    refine Zm ?_
    refine Zm ?_
    refine Zo (Ai (ad' := ax.add x) rfl rfl rfl Tryz.underlying44 AN (by omega) (by omega) (by rw [Int.toNat_natCast])) ?_
    refine Zu (Ah rfl rfl AO ((fun w hw => B8 (i := 1) rfl w hw x _ (BW (Bp (nat l) (by omega)))))) ?_
    refine Zm ?_
    refine Zo (AX rfl rfl rfl) ?_
    refine Zx ?_
    refine Zd (fun c22 => ?_) fun c22 => ?_
    ·have hle2 : l x = x := Int.ofNat.inj (of_decide_eq_true c22)
     refine Zs ?_
     refine Zm ?_
     refine Zm ?_
     refine Zm ?_
     refine Zo (Ai (ad' := ⟨g77, x, none⟩) rfl rfl rfl Tryz.underlying44 AN (by omega) (by omega) (by rw [AC]; rfl)) ?_
     refine Zy (AF (cs' := (ints (tab n (upd o x k))).toArray) rfl rfl rfl AN rfl (by simp; omega) BL) ?_
     refine Zx <| DC.region ?_
     refine Zm ?_
     refine Zp ?_
     refine Za ?_
     refine Seq.nil <| Fin.inBlock <| Fin.then <| DC.region ?_
     refine Zm ?_
     refine Zp ?_
     refine Za ?_
     refine Seq.nil ?_
     refine Fin.again ⟨x + 1, k + 1, upd o x k⟩ (by dsimp only; omega) ⟨by dsimp only; omega, by dsimp only; rw [hks, if_pos hle2]⟩ ⟨rfl, rfl, rfl, rfl, rfl, trivial⟩ (.cons 0 rfl (.cons 0 rfl (.cons 0 rfl .nil)))
    ·have hle2 : ¬ l x = x := fun h => of_decide_eq_false c22 (congrArg Int.ofNat h)
     refine DC.region ?_
     refine Zm ?_
     refine Zm ?_
     refine Zm ?_
     refine Zm ?_
     refine Zm ?_
     refine Zo (Ai (ad' := ax.add x) rfl rfl rfl Tryz.underlying44 AN (by omega) (by omega) (by rw [Int.toNat_natCast])) ?_
     refine Zu (Ah rfl rfl AO ((fun w hw => B8 (i := 1) rfl w hw x _ (BW (Bp (nat l) (by omega)))))) ?_
     refine Zo (Ai (ad' := ⟨g77, l x, none⟩) rfl rfl rfl Tryz.underlying44 AN (by simp [nat]) (by simp [nat]; omega) (by rw [AC]; rfl)) ?_
     refine Zu (Ah rfl rfl AO (AU (Bk (by omega)))) ?_
     refine Zo (Ai (ad' := ⟨g77, x, none⟩) rfl rfl rfl Tryz.underlying44 AN (by omega) (by omega) (by rw [AC]; rfl)) ?_
     refine Zy (AF (cs' := (ints (tab n (upd o x (o (l x))))).toArray) rfl rfl rfl AN rfl (by simp; omega) BL) ?_
     refine Seq.nil <| Fin.inBlock <| Fin.then <| DC.region ?_
     refine Zm ?_
     refine Zp ?_
     refine Za ?_
     refine Seq.nil ?_
     refine Fin.again ⟨x + 1, k, upd o x (o (l x))⟩ (by dsimp only; omega) ⟨by dsimp only; omega, by dsimp only; rw [hks, if_neg hle2]; rfl⟩ ⟨rfl, rfl, rfl, rfl, rfl, trivial⟩ (.cons 0 rfl (.cons 0 rfl (.cons 0 rfl .nil)))
   ·refine DC.exit <| Ad <| Ad <| Ag <| Fin.then <| Zs ?_
    refine Zm ?_
    refine Zm ?_
    refine Za ?_
    refine Za ?_
    refine Za ?_
    refine Zx <| DC.ret ?_
    refine Fin.weak (E' := [(2, _), (3, _), (4, _)]) ⟨rfl, rfl, rfl, trivial⟩ .nil ?_
    refine BG (.inl rfl) rfl rfl rfl rfl ?_
    have hxn : x = n := by simp at c20; omega
    subst hxn
    have : k = ncomp x es := by
     rw [hk]; unfold ncomp
     refine List.countP_congr fun v _ => ?_
     rw [decide_eq_true_iff, decide_eq_true_iff]
     exact lb_least hP hall v
    rw [this]
    exact ⟨_, rfl⟩
structure IsI where
 i : Nat
 m : Nat → Bool
theorem Fo {n : Nat} {es : List Pr} {va : Value} {w : World} (hg : PrV w va es) (hV : Vld n es) :
  Calls Tryz.prog 93 #[.agg #[.int .i64 n, va]] w (Ret w [] fun r M => r = .tuple #[.int .i64 (isoN n es : Nat), .int .i64 0]) := by
 have hfew := hV.few
 have hnm := hV.hi
 have hg0 := hg
 obtain ⟨A, cap, rfl, hr, hlc, hcm, hle⟩ := hg
 refine At (K := []) (args := [_]) (L := []) Tryz.func93 rfl Tryz.ntmps93 rfl (Own.start _ _) ?_
 refine Zs ?_
 refine Zw (AS rfl rfl rfl) fun g1 => ?_
 refine Za ?_
 refine Za ?_
 refine Zx <| DC.seq <| Zs ?_
 refine Zu (Ay (vs := [_, _]) rfl rfl Bj Bc rfl (Ak rfl)) ?_
 refine Seq.rel0 rfl rfl (Aq en14 rfl rfl rfl (fun w hw => Db (hg0.keep0 hw))) ?_
 rintro _ ⟨bv, rfl, hbv⟩
 refine Zo (Bh rfl rfl) ?_
 refine Zx ?_
 refine Zd (fun c1 => ?_) fun c1 => ?_
 ·rw [hbv.2 hV] at c1
  simp at c1
 ·refine DC.skip <| Fin.then <| Zs ?_
  refine Zf BF ?_
  refine Zl AO ?_
  refine Zw (BI (k := n) rfl rfl rfl Tryz.underlying188 Fe by4 ze4 rfl (by omega) (by omega) (Dg _)) fun g13 => ?_
  refine Za ?_
  refine Zx <| DC.seq <| Zs ?_
  refine Za ?_
  refine Zx <| DC.block ?_
  refine DC.loop (ι := IsI) (fun j => j.i ≤ es.length ∧ ∀ x : Nat, x < n → (j.m x = true ↔ ∃ (k : Nat) (e : Pr), k < j.i ∧ es[k]? = some e ∧ (e.1 = x ∨ e.2 = x))) (fun j => [(1, .pointer (some ⟨g1, 0, none⟩)), (4, .slice (some ⟨g13, 0, none⟩) n n), (5, .int .i64 (j.i : Nat))])
   (fun j => [blk g13 4 (bls n j.m).toArray, blk g1 24 #[.int .i64 n, .slice A es.length cap]]) (fun j => es.length - j.i) ⟨0, fun _ => false⟩ ⟨Nat.zero_le _, fun x _ => ⟨fun h => by simp at h, fun ⟨k, e, h, _⟩ => absurd h (Nat.not_lt_zero _)⟩⟩ ⟨rfl, rfl, rfl, trivial⟩ (.cons 0 rfl (.cons 0 rfl .nil)) ?_
  rintro ⟨i, m⟩ ⟨hi, hm⟩
  dsimp only at hi hm ⊢
  refine DC.seq <| Zs ?_
  refine Zm ?_
  refine Zf Be ?_
  refine Zl BO ?_
  refine Zn Tryz.underlying22 ?_
  refine Zc ?_
  refine Zx ?_
  refine Zd (fun c5 => ?_) fun c5 => ?_
  ·have hlt : i < es.length := by simpa using c5
   obtain ⟨e, he⟩ : ∃ e, es[i]? = some e := ⟨_, List.getElem?_eq_getElem hlt⟩
   obtain ⟨ad, rfl, hU, hVe⟩ := hr.pair he
   obtain ⟨a, b, rfl, hab, hbn⟩ := CY hV (List.mem_of_getElem? he)
   dsimp only at hU hVe
   refine DC.skip <| Fin.then <| DC.seq <| DC.block <| Zs ?_
   refine Zm ?_
   refine Zf Be ?_
   refine Zl BO ?_
   refine Zm ?_
   refine Zo (AQ (ad' := ad.add (i * 2)) rfl rfl rfl Tryz.underlying22 Bb (by omega) (by omega) rfl) ?_
   refine Zo (CL (ad' := ad.add (i * 2)) rfl rfl Bd (by simp [Addr.add])) ?_
   refine Zu (Ah rfl rfl AO (AE hU)) ?_
   refine Zo (Ai (ad' := ⟨g13, a, none⟩) rfl rfl rfl Tryz.underlying188 Fe (by omega) (by omega) (by rw [AC]; rfl)) ?_
   refine Zy (AF (cs' := (bls n (updB m a true)).toArray) rfl rfl rfl Fe rfl (by simp; omega) (DH m true)) ?_
   refine Zx <| DC.region ?_
   refine Zm ?_
   refine Zf Be ?_
   refine Zl BO ?_
   refine Zm ?_
   refine Zo (AQ (ad' := ad.add (i * 2)) rfl rfl rfl Tryz.underlying22 Bb (by omega) (by omega) rfl) ?_
   refine Zo (CL (ad' := ad.add (i * 2 + 1)) rfl rfl Bu (DK _ _ _ (by decide))) ?_
   refine Zu (Ah rfl rfl AO (AE hVe)) ?_
   refine Zo (Ai (ad' := ⟨g13, b, none⟩) rfl rfl rfl Tryz.underlying188 Fe (by omega) (by omega) (by rw [AC]; rfl)) ?_
   refine Zy (AF (cs' := (bls n (updB (updB m a true) b true)).toArray) rfl rfl rfl Fe rfl (by simp; omega) (DH _ true)) ?_
   refine Seq.nil <| Fin.inBlock <| Fin.then <| DC.region ?_
   refine Zm ?_
   refine Zp ?_
   refine Za ?_
   refine Seq.nil ?_
   refine Fin.again ⟨i + 1, updB (updB m a true) b true⟩ (by dsimp only; omega) ⟨by dsimp only; omega, fun x hx => ?_⟩ ⟨rfl, rfl, rfl, trivial⟩ (.cons 0 rfl (.cons 0 rfl .nil))
   dsimp only
   have hnew : (updB (updB m a true) b true) x = true ↔ m x = true ∨ x = a ∨ x = b := by
    unfold updB
    by_cases h1 : x = b
    ·simp [h1]
    ·by_cases h2 : x = a <;> simp [h1, h2]
   rw [hnew, hm x hx]
   constructor
   ·rintro (⟨k, e, hk, hke, h⟩ | h | h)
    ·exact ⟨k, e, by omega, hke, h⟩
    ·exact ⟨i, _, by omega, he, .inl (by simp only; omega)⟩
    ·exact ⟨i, _, by omega, he, .inr (by simp only; omega)⟩
   ·rintro ⟨k, e, hk, hke, h⟩
    rcases Nat.lt_succ_iff_lt_or_eq.1 hk with hk | rfl
    ·exact .inl ⟨k, e, hk, hke, h⟩
    ·rw [he] at hke; cases hke
     simp only at h
     rcases h with h | h
     ·exact .inr (.inl (by omega))
     ·exact .inr (.inr (by omega))
  ·refine DC.exit <| Ad <| Ad <| Ag <| Fin.then <| DC.seq ?_
   have hil : i = es.length := by simp at c5; omega
   subst hil
   have hm2 : ∀ x : Nat, x < n → (m x = false ↔ cnt es x = 0) := fun x hx => by
    have h1 := GP hV x
    have h2 := hm x hx
    have h3 : (∃ (k : Nat) (e : Pr), k < es.length ∧ es[k]? = some e ∧ (e.1 = x ∨ e.2 = x)) ↔ ∃ e, e ∈ es ∧ (e.1 = x ∨ e.2 = x) := by
     constructor
     ·rintro ⟨k, e, _, hk, h⟩; exact ⟨e, List.mem_of_getElem? hk, h⟩
     ·rintro ⟨e, hk, h⟩
      obtain ⟨k, hk⟩ := List.mem_iff_getElem?.1 hk
      exact ⟨k, e, (List.getElem?_eq_some_iff.1 hk).1, hk, h⟩
    rw [h3, ← h1] at h2
    rw [← Bool.not_eq_true, h2]
    exact Decidable.not_not
   refine DC.region ?_
   refine Za ?_
   refine Zx <| DC.seq <| Zs ?_
   refine Za ?_
   refine Zx <| DC.block ?_
   refine DC.loop (ι := Nat) (fun x => x ≤ n) (fun x => [(1, .pointer (some ⟨g1, 0, none⟩)), (4, .slice (some ⟨g13, 0, none⟩) n n), (6, .int .i64 (isoN x es : Nat)), (7, .int .i64 (x : Nat))])
    (fun _ => [blk g13 4 (bls n m).toArray, blk g1 24 #[.int .i64 n, .slice A es.length cap]]) (fun x => n - x) 0 (Nat.zero_le _) ⟨rfl, rfl, rfl, rfl, trivial⟩ (.cons 0 rfl (.cons 0 rfl .nil)) ?_
   intro x hx
   have hix : isoN x es ≤ x := by
    have := List.countP_le_length (p := fun v => decide (cnt es v = 0)) (l := List.range x)
    simpa [isoN] using this
   have his : isoN (x + 1) es = isoN x es + if cnt es x = 0 then 1 else 0 := by
    unfold isoN
    rw [List.range_succ, List.countP_append]
    by_cases h : cnt es x = 0 <;> simp [h]
   refine DC.seq <| Zs ?_
   refine Zm ?_
   refine Zf BF ?_
   refine Zl AO ?_
   refine Zc ?_
   refine Zx ?_
   refine Zd (fun c11 => ?_) fun c11 => ?_
   ·have hxn : x < n := by simpa using c11
    refine DC.skip <| Fin.then <| DC.seq <| DC.block <| Zs ?_
    refine Zm ?_
    refine Zm ?_
    refine Zo (Ai (ad' := ⟨g13, x, none⟩) rfl rfl rfl Tryz.underlying188 Fe (by omega) (by omega) (by rw [AC]; rfl)) ?_
    refine Zu (Ah rfl rfl ag4 (AU (DI m hxn))) ?_
    refine Zo (Bh rfl rfl) ?_
    refine Zx ?_
    refine Zd (fun c13 => ?_) fun c13 => ?_
    ·refine DC.region ?_
     refine Zm ?_
     refine Zp ?_
     refine Za ?_
     refine Seq.nil <| Fin.inBlock <| Fin.then <| DC.region ?_
     refine Zm ?_
     refine Zp ?_
     refine Za ?_
     refine Seq.nil ?_
     have h0 : cnt es x = 0 := (hm2 x hxn).1 (by simpa using c13)
     refine Fin.again (x + 1) (by omega) (by omega) ⟨rfl, rfl, ?_, rfl, trivial⟩ (.cons 0 rfl (.cons 0 rfl .nil))
     rw [his, if_pos h0]; rfl
    ·refine DC.skip <| Fin.inBlock <| Fin.then <| DC.region ?_
     refine Zm ?_
     refine Zp ?_
     refine Za ?_
     refine Seq.nil ?_
     have h0 : ¬ cnt es x = 0 := fun h => by have := (hm2 x hxn).2 h; rw [this] at c13; simp at c13
     refine Fin.again (x + 1) (by omega) (by omega) ⟨rfl, rfl, ?_, rfl, trivial⟩ (.cons 0 rfl (.cons 0 rfl .nil))
     rw [his, if_neg h0]; rfl
   ·refine DC.exit <| Ad <| Ad <| Ag <| Fin.then <| Zs ?_
    refine Zm ?_
    refine Za ?_
    refine Za ?_
    refine Zx <| DC.ret ?_
    refine Fin.weak (E' := [(2, _), (3, _)]) ⟨rfl, rfl, trivial⟩ .nil ?_
    refine AJ (.inl rfl) rfl rfl rfl ?_
    have hxn : x = n := by simp at c11; omega
    subst hxn
    rfl
open Classical
/-! ### the genus of the whole is even, in pure terms -/
theorem least_ex {p : Nat → Prop} : ∀ v, p v → ∃ y, p y ∧ ∀ z, z < y → ¬ p z := by
 intro v
 induction v using Nat.strongRecOn with
 | _ v ih =>
  intro hv
  by_cases h : ∃ z, z < v ∧ p z
  ·obtain ⟨z, hz, hp⟩ := h; exact ih z hz hp
  ·exact ⟨v, hv, fun z hz hp => h ⟨z, hz, hp⟩⟩
theorem lab_ex (n : Nat) (es : List Pr) : ∃ l : Nat → Nat, (∀ x, l x ≤ x) ∧ Lab n es (nat l) := by
 have h : ∀ v, ∃ y, Conn es y v ∧ ∀ z, z < y → ¬ Conn es z v := fun v => least_ex (p := fun y => Conn es y v) v (.refl v)
 refine ⟨fun v => (h v).choose, fun x => ?_, fun a b _ _ => ?_⟩
 ·have h1 := (h x).choose_spec
  rcases Nat.lt_or_ge x (h x).choose with h2 | h2
  ·exact absurd (.refl x) (h1.2 x h2)
  ·exact h2
 ·have ha := (h a).choose_spec
  have hb := (h b).choose_spec
  constructor
  ·intro e
   have e : (h a).choose = (h b).choose := Int.ofNat.inj e
   rw [e] at ha
   exact ha.1.symm.trans hb.1
  ·intro hc
   have h1 := ha.1.trans hc
   have h2 := hb.1.trans hc.symm
   show ((h a).choose : Int) = (h b).choose
   rcases Nat.lt_trichotomy (h a).choose (h b).choose with h3 | h3 | h3
   ·exact absurd h1 (hb.2 _ h3)
   ·rw [h3]
   ·exact absurd h2 (ha.2 _ h3)
theorem Kz {n : Nat} {es : List Pr} {rs : List (List Int)} {fn : Nat → Int} (hok : RotL n es rs) (hnx : NxOk rs rs.length fn) : ∃ q, genus2 n es fn = 2 * q := by
 obtain ⟨l, hle, hL⟩ := lab_ex n es
 have hV := hok.1
 obtain ⟨ks, hks⟩ : ∃ ks : List Int, ks = ((List.range n).filter fun (x : Nat) => decide (cnV (nat l) n x ≠ 0)).map fun (x : Nat) => (x : Int) := ⟨_, rfl⟩
 have hnd : ks.Nodup := by
  rw [hks]
  exact List.Pairwise.map _ (fun a b h e => h (Int.ofNat.inj e)) (List.Pairwise.filter _ List.nodup_range)
 have hk : ∀ x, x ∈ ks ↔ cnV (nat l) n x ≠ 0 := by
  intro x
  rw [hks, List.mem_map]
  constructor
  ·rintro ⟨y, hy, rfl⟩
   rw [List.mem_filter] at hy
   simpa using hy.2
  ·intro h
   obtain ⟨j, hj, hx⟩ := Is h
   have hx' : x = ((l j : Nat) : Int) := hx.symm
   subst hx'
   exact ⟨l j, by rw [List.mem_filter, List.mem_range]; exact ⟨by have := hle j; omega, by simpa using h⟩, rfl⟩
 have hhin : ∀ h, h ∈ headsOf (es.length * 2) fn → headU es h < n ∧ cnE (nat l) es es.length (nat l (headU es h)) ≠ 0 := by
  intro h hh
  obtain ⟨x, hx, rfl⟩ := List.mem_map.1 hh
  have hx2 : x < es.length * 2 := by
   have := (List.mem_filter.1 hx).1
   exact List.mem_range.1 this
  obtain ⟨e, he⟩ : ∃ e, es[x / 2]? = some e := ⟨_, List.getElem?_eq_getElem (by omega)⟩
  have hem := List.mem_of_getElem? he
  have := hV.ok _ e he
  have h1 := this.lo; have h2 := this.lt; have h3 := this.hi
  rw [GF he]
  refine ⟨by omega, fun h0 => GR h0 hem rfl⟩
 have htot := GG hV hL hnd hk hhin
 have hev : ∀ x, x ∈ ks → ∃ q, gval (cnV (nat l) n x) (cnE (nat l) es es.length x) (cnF (nat l) es (headsOf (es.length * 2) fn) (headsOf (es.length * 2) fn).length x) = 2 * q := by
  intro x _
  unfold gval
  by_cases h0 : cnE (nat l) es es.length x = 0
  ·exact ⟨0, by simp [h0]⟩
  ·rw [if_pos h0]
   have h1 := Hn hok hnx hL h0
   exact ⟨(2 - (cnV (nat l) n x : Int) + cnE (nat l) es es.length x - cnF (nat l) es (headsOf (es.length * 2) fn) (headsOf (es.length * 2) fn).length x) / 2, by omega⟩
 have hsum : ∀ (ks : List Int), (∀ x, x ∈ ks → ∃ q, gval (cnV (nat l) n x) (cnE (nat l) es es.length x) (cnF (nat l) es (headsOf (es.length * 2) fn) (headsOf (es.length * 2) fn).length x) = 2 * q) →
   ∃ q, gsum (cnV (nat l) n) (cnE (nat l) es es.length) (cnF (nat l) es (headsOf (es.length * 2) fn) (headsOf (es.length * 2) fn).length) ks = 2 * q := by
  intro ks
  induction ks with
  | nil => intro _; exact ⟨0, rfl⟩
  | cons a r ih =>
   intro h
   obtain ⟨q1, e1⟩ := h a (List.mem_cons_self ..)
   obtain ⟨q2, e2⟩ := ih fun x hx => h x (List.mem_cons_of_mem _ hx)
   refine ⟨q1 + q2, ?_⟩
   unfold gsum at e2 ⊢
   rw [List.map_cons, List.sum_cons, e1, e2]; omega
 obtain ⟨q, hq⟩ := hsum ks hev
 refine ⟨q, ?_⟩
 rw [htot] at hq
 unfold genus2 facesN
 exact hq
theorem Jy {n : Nat} {f : Nat → Int} {fs : RL} {v : Value} (hD : FaD n f ⟨n, fun _ => true, fs, v⟩) : fs.length = (headsOf n f).length := by
 have h1 := congrArg List.length hD.heads
 simp only [List.length_map] at h1
 unfold headsOf
 rw [List.length_map, h1]
theorem DC.shape1 {P : Program} {w0 : World} {K : List Nat} {n : Nat} {ds : List Deferred} {E : Env} {L : List Chunk} {v : Value} {Q : Exit → Act → World → Prop} {c : Code} {t : Nat} {vs : List Value} (i : Nat) (hi : L[i]? = some (slc v t 1 vs)) (h : (∃ A c, v = .slice A vs.length c) → DC P w0 K n ds Q c E L) : DC P w0 K n ds Q c E L := by
 intro a w ha hw
 obtain ⟨A, len, cap, e, hl, _⟩ := CE (hw.perm (AI hi).symm)
 rw [Nat.mul_one] at hl
 exact h ⟨A, cap, by rw [hl]; exact e⟩ a w ha hw
theorem Gn {n : Nat} {es : List Pr} {rs : List (List Int)} {va v : Value} {w : World} (hg : PrV w va es) (hl : LsV w v rs) (hs : ∀ l, l ∈ rs → l.length ≤ 1000000000) (hok : RotL n es rs) :
  Calls Tryz.prog 51 #[.agg #[.int .i64 n, va], v] w (Ret w [] fun r M => ∃ q f, r = .tuple #[.int .i64 q, .int .i64 0] ∧ NxOk rs rs.length f ∧ genus2 n es f = 2 * q) := by
 obtain ⟨A, cap, hva, _⟩ := id hg
 subst hva
 obtain ⟨B, capb, hvb, _⟩ := id hl
 subst hvb
 have hV := hok.1
 have hfew := hV.few
 have hnm := hV.hi
 refine At (K := []) (args := [_, _]) (L := []) Tryz.func51 rfl Tryz.ntmps51 rfl (Own.start _ _) ?_
 refine Zs ?_
 refine Zw (AS rfl rfl rfl) fun g2 => ?_
 refine Za ?_
 refine Za ?_
 refine Zx <| Zs ?_
 refine Zu (Ay (vs := [_, _]) rfl rfl Bj Bc rfl (Ak rfl)) ?_
 refine Zm ?_
 refine Seq.rel rfl rfl (Aq en91 rfl rfl rfl (fun w hw => IZ (hg.keep0 hw) (hl.keep0 hw) hs hok)) ?_
 rintro _ _ ⟨vf, fs, f, rfl, hnx, hD, rfl⟩
 refine Zm ?_
 refine Ze ?_
 refine Ze ?_
 refine Za ?_
 refine Za ?_
 refine Zx <| DC.seq <| Zs ?_
 refine Zm ?_
 refine Zo (BS rfl rfl rfl) ?_
 refine Zx ?_
 refine Zd (fun c2 => ?_) fun c2 => ?_
 ·simp at c2
 ·refine DC.skip <| Fin.then <| DC.seq ?_
  simp only [List.cons_append, List.nil_append]
  refine DC.shape1 0 rfl ?_
  rintro ⟨Af, cf, rfl⟩
  rw [rowsV_length]
  have hfc := Jy hD
  obtain ⟨q, hq⟩ := Kz hok hnx
  have hq' : 2 * (ncomp n es : Int) - isoN n es - n + es.length - fs.length = 2 * q := by
   rw [← hq]; unfold genus2 facesN; rw [hfc]
  have hc1 : ncomp n es ≤ n := by
   have := List.countP_le_length (p := fun v => decide (∀ y, y < v → ¬ Conn es y v)) (l := List.range n)
   simpa [ncomp] using this
  have hc2 : isoN n es ≤ n := by
   have := List.countP_le_length (p := fun v => decide (cnt es v = 0)) (l := List.range n)
   simpa [isoN] using this
  have hc3 : fs.length ≤ es.length * 2 := by
   rw [hfc]; unfold headsOf
   rw [List.length_map]
   have := List.length_filter_le (fun x => decide (Lead (phi f) x)) (List.range (es.length * 2))
   simpa using this
  refine DC.own (M := [blk g2 24 #[.int .i64 n, .slice A es.length cap]]) (fun w hw => hw.sub (.cons _ (List.sublist_append_right _ _))) ?_
  refine DC.region ?_
  refine Zu (Ay (vs := [_, _]) rfl rfl Bj Bc rfl (Ak rfl)) ?_
  refine Seq.rel rfl rfl (Aq en92 rfl rfl rfl (fun w hw => Kd (hg.keep0 hw) hV)) ?_
  rintro _ M4 ⟨vc, rfl⟩
  refine Seq.own (M := [blk g2 24 #[.int .i64 n, .slice A es.length cap]]) (fun w hw => hw.sub (List.sublist_append_right _ _)) ?_
  refine Zm ?_
  refine Ze ?_
  refine Ze ?_
  refine Ze ?_
  refine Za ?_
  refine Za ?_
  refine Za ?_
  refine Zx <| Zs ?_
  refine Zu (Ay (vs := [_, _]) rfl rfl Bj Bc rfl (Ak rfl)) ?_
  refine Seq.rel rfl rfl (Aq en93 rfl rfl rfl (fun w hw => Fo (hg.keep0 hw) hV)) ?_
  rintro _ M5 rfl
  refine Seq.own (M := [blk g2 24 #[.int .i64 n, .slice A es.length cap]]) (fun w hw => hw.sub (List.sublist_append_right _ _)) ?_
  refine Zm ?_
  refine Ze ?_
  refine Ze ?_
  refine Za ?_
  refine Za ?_
  refine Zx <| Zs ?_
  refine Zm ?_
  refine Zo (Cb rfl rfl rfl (by omega)) ?_
  refine Zm ?_
  refine Zo (Ca rfl rfl rfl (by omega)) ?_
  refine Zf BF ?_
  refine Zl AO ?_
  refine Zo (Ca rfl rfl rfl (by omega)) ?_
  refine Zf Be ?_
  refine Zl BO ?_
  refine Zn Tryz.underlying22 ?_
  refine Zp ?_
  refine Zm ?_
  refine Zn Tryz.underlying25 ?_
  refine Zo (Ca rfl rfl rfl (by omega)) ?_
  refine Zo (p_quo2 (q := q) rfl rfl rfl hq' (by omega)) ?_
  refine Za ?_
  refine Za ?_
  refine Zx <| DC.ret ?_
  refine Fin.weak (E' := [(4, _), (5, _)]) ⟨rfl, rfl, trivial⟩ .nil ?_
  refine AJ (.inl rfl) rfl rfl rfl ?_
  exact ⟨q, f, rfl, hnx, hq⟩
theorem Eq {n : Nat} {es : List Pr} {rs : List (List Int)} {va v : Value} {w : World} (hg : PrV w va es) (hl : LsV w v rs) (hs : ∀ l, l ∈ rs → l.length ≤ 1000000000) (hok : RotL n es rs) :
  Calls Tryz.prog 26 #[.agg #[.int .i64 n, va], v] w (Ret w [] fun r M => ∃ b f, r = .bool b ∧ NxOk rs rs.length f ∧ (b = true ↔ genus2 n es f = 0)) := by
 obtain ⟨A, cap, hva, _⟩ := id hg
 subst hva
 obtain ⟨B, capb, hvb, _⟩ := id hl
 subst hvb
 refine At (K := []) (args := [_, _]) (L := []) Tryz.func26 rfl Tryz.ntmps26 rfl (Own.start _ _) ?_
 refine Zs ?_
 refine Zw (AS rfl rfl rfl) fun g2 => ?_
 refine Za ?_
 refine Zx <| Zs ?_
 refine Zu (Ay (vs := [_, _]) rfl rfl Bj Bc rfl (Ak rfl)) ?_
 refine Zm ?_
 refine Seq.rel rfl rfl (Aq en51 rfl rfl rfl (fun w hw => Gn (hg.keep0 hw) (hl.keep0 hw) hs hok)) ?_
 rintro _ M1 ⟨q, f, rfl, hnx, hq⟩
 refine Seq.own (M := [blk g2 24 #[.int .i64 n, .slice A es.length cap]]) (fun w hw => hw.sub (List.sublist_append_right _ _)) ?_
 refine Zm ?_
 refine Ze ?_
 refine Ze ?_
 refine Za ?_
 refine Za ?_
 refine Zx <| Zs ?_
 refine Zm ?_
 refine Zo (AX rfl rfl rfl) ?_
 refine Zm ?_
 refine Seq.split 15 rfl (fun k2_2 => ?_) (fun k2_2 => ?_)
 ·refine Zm ?_
  refine Zo (AX rfl rfl rfl) ?_
  refine Zt ?_
  refine Za ?_
  refine Zx <| DC.ret ?_
  refine Fin.weak (E' := [(4, _)]) ⟨rfl, trivial⟩ .nil ?_
  refine Aj (.inl rfl) rfl rfl ?_
  refine ⟨_, f, rfl, hnx, ?_⟩
  rw [decide_eq_true_iff, hq]; omega
 ·simp at k2_2
end Go.Fl

namespace Go.Fl
open Go Go.Proofs
open Classical
theorem Hg : ∀ {l : List Int} {k : Nat} {x y : Int}, l[k + 1]? = some x → l[k]? = some y → (swpL l k x y).Perm l
 | [], k, x, y, h, _ => by simp at h
 | [a], k, x, y, h, _ => by simp at h
 | a :: b :: r, 0, x, y, h1, h2 => by
  simp at h1 h2
  subst h1 h2
  exact List.Perm.swap _ _ _
 | a :: b :: r, k + 1, x, y, h1, h2 => by
  have := Hg (l := b :: r) (k := k) (x := x) (y := y) (by simpa using h1) (by simpa using h2)
  exact this.cons a
theorem LV {rs : List (List Int)} {v : Nat} {l m : List Int} (hl : rs[v]? = some l) (h : m.Perm l) : RowsR (fun l m => m.Perm l) rs (rs.set v m) := by
 refine ⟨by simp, fun x a b ha hb => ?_⟩
 rw [List.getElem?_set] at hb
 split at hb
 ·rename_i e; subst e
  split at hb
  ·cases hb; rw [hl] at ha; cases ha; exact h
  ·cases hb
 ·rw [ha] at hb; cases hb; exact List.Perm.refl _
/-- What is answered of the certificate of one rotation and of its mirror image. -/
theorem chk_mir {n : Nat} {es : List Pr} {rs ps ms qs : List (List Int)} {f : Nat → Int} (hok : RotL n es rs) (hM : RowsR MirR rs ps) (hT : RowsR TurnR ps ms) (hC : RowsR TurnR ms qs) (hf : NxOk rs rs.length f) :
  chkF n es true (arou es qs) [] = if (certB true (arou es rs) []).length ≤ 33554432 then (if genus2 n es f = 0 then 0 else 183) else 181 := by
 have hp := Fv hM hT
 have hokm := Cf hok hp
 have hokp := Cf hok (hM.mono fun l m h => by rw [show m = l.reverse from h]; exact List.reverse_perm l)
 obtain ⟨g, hg⟩ := nx_ex hokp
 have h1 := (Iu hokm hC (Ld hT hg)).2
 rw [h1, EJ hp, genus_mir hok hM hf hg]
theorem L4 {w0 w : World} {K : List Nat} {t i k : Nat} {rs : RL} {p : Value × List Int} {x y : Int} {v : Value} {c c1 c2 : Chunk} (h : rs[i]? = some p) (hv : v = p.1)
  (hw : Own w0 K w (((c1 :: c2 :: rowsC t rs).set (2 + i) c).set (2 + i) (slc v t 1 (ints ((p.2.set k x).set (k + 1) y))))) :
  Own w0 K w (c1 :: c2 :: rowsC t (rs.set i (p.1, swpL p.2 k x y))) := by
 rw [List.set_set, hv] at hw
 have e : (c1 :: c2 :: rowsC t rs).set (2 + i) (slc p.1 t 1 (ints ((p.2.set k x).set (k + 1) y))) = c1 :: c2 :: rowsC t (rs.set i (p.1, swpL p.2 k x y)) := by
  have e2 : ([c1, c2] ++ rowsC t rs).set (2 + i) (slc p.1 t 1 (ints (swpL p.2 k x y))) = [c1, c2] ++ rowsC t (rs.set i (p.1, swpL p.2 k x y)) := by
   rw [List.set_append_right _ _ (by simp), show 2 + i - [c1, c2].length = i by simp]
   congr 1
   simp only [rowsC, List.map_set]
  exact e2
 rw [e] at hw
 exact hw
theorem row2 {t i : Nat} {rs : RL} {p : Value × List Int} {c1 c2 : Chunk} (h : rs[i]? = some p) : (c1 :: c2 :: rowsC t rs)[2 + i]? = some (slc p.1 t 1 (ints p.2)) :=
 rowsC_at (A := [c1, c2]) h
theorem row2s {t i : Nat} {rs : RL} {p : Value × List Int} {c c1 c2 : Chunk} (h : rs[i]? = some p) : ((c1 :: c2 :: rowsC t rs).set (2 + i) c)[2 + i]? = some c := by
 have := (List.getElem?_eq_some_iff.1 (row2 (c1 := c1) (c2 := c2) (t := t) h)).1
 rw [List.getElem?_set_self this]
theorem Eu {P : Program} {f : FuncId} {args : Array Value} {w : World} {D : Value → Prop} (h : Calls P f args w (Ret w [] fun r _ => D r)) : Calls P f args w (Ret w [] fun r M => M = [] ∧ D r) := by
 refine Calls.mono h ?_
 rintro e w' ⟨r, L', he, hD, hO⟩
 exact ⟨r, [], he, ⟨rfl, hD⟩, hO.sub (List.nil_sublist _)⟩
theorem LFlat_calls {N z : Int} {es : List Pr} {rs : List (List Int)} {va v : Value} {w : World} (hg : PrV w va es) (hl : LsV w v rs) (hp : Pow w) (hn : rs.length ≤ 1000000000) (hs : ∀ l, l ∈ rs → l.length ≤ 1000000000) :
  Calls Tryz.prog 8 #[.agg #[.int .i64 N, va], v, .int .i64 z] w (Ret w [] fun r M => r = .bool true) := by
 have hel : es.length ≤ 8796093021952 := by obtain ⟨_, _, _, _, _, _, h⟩ := hg; exact h
 have hnilp : ∀ w : World, PrV w (.slice none 0 0) [] := fun w => ⟨none, 0, rfl, fun j u h => by simp [prs] at h, Nat.le_refl _, by omega, by simp⟩
 have hl0 := hl
 have hg0 := hg
 obtain ⟨A, cap, rfl, _⟩ := hg0
 obtain ⟨B, capb, rfl, hrb, _, _, hlb⟩ := hl0
 refine At (K := []) (args := [_, _, _]) (L := []) Tryz.func8 rfl Tryz.ntmps8 rfl (Own.start _ _) ?_
 refine DC.seq <| DC.region ?_
 refine Seq.new rfl rfl (AS rfl rfl rfl) fun g3 => ?_
 refine Seq.pur rfl rfl (Aw rfl rfl) ?_
 refine Seq.nil <| Fin.then <| DC.seq <| DC.seq <| DC.region ?_
 refine Seq.rel0 rfl rfl (Aq en9 rfl rfl rfl (fun w hw => IK (hp.keep0 hw))) ?_
 rintro _ rfl
 refine Seq.pur rfl rfl (Bh rfl rfl) ?_
 refine Seq.nil <| Fin.then ?_
 refine DC.cond rfl (fun c1 => ?_) (fun c1 => ?_)
 ·simp at c1
 ·refine DC.skip <| Fin.then <| DC.seq <| DC.region ?_
  refine Seq.val rfl rfl (Ay (vs := [_, _]) rfl rfl Bj Bc rfl (Ak rfl)) ?_
  refine Seq.pur rfl rfl (Az rfl rfl) ?_
  refine Seq.rel rfl rfl (Aq en25 rfl rfl rfl (fun w hw => CF (hg.keep0 hw) (hl.keep0 hw) hn hs)) ?_
  rintro _ _ ⟨Ar, l22, c22, b22, ck, ls, rfl, hb22, rfl, hck, hll, hls, hcan⟩
  refine Seq.pur rfl rfl (Az rfl rfl) ?_
  refine Seq.pur rfl rfl (Bt rfl rfl rfl) ?_
  refine Seq.pur rfl rfl (Bt rfl rfl rfl) ?_
  refine Seq.new rfl rfl (AH rfl LK rfl) fun g7 => ?_
  refine Seq.sto rfl rfl (AA (cs' := #[_, _, _]) rfl rfl rfl De rfl (Nat.le_of_ble_eq_true rfl) rfl) ?_
  refine Seq.pur rfl rfl (Aw rfl rfl) ?_
  refine Seq.nil <| Fin.then <| DC.seq <| DC.seq ?_
  simp only [List.cons_append, List.nil_append]
  refine DC.region ?_
  refine Seq.pur rfl rfl (Az rfl rfl) ?_
  refine Seq.pur rfl rfl (Bh rfl rfl) ?_
  refine Seq.nil <| Fin.then ?_
  refine DC.cond rfl (fun c4 => ?_) (fun c4 => ?_)
  ·refine DC.seq <| DC.region ?_
   refine Seq.pur rfl rfl (Aw rfl rfl) ?_
   refine Seq.nil <| Fin.then <| DC.ret <| Aa ?_
   refine Fin.weak (E' := [(6, _)]) (L' := []) ⟨rfl, trivial⟩ .nil ?_
   refine Aj (.inl rfl) rfl rfl ?_
   rfl
  ·have hok : RotL N es rs := hb22.1 (by simpa using c4)
   obtain ⟨n, rfl⟩ : ∃ n : Nat, N = n := ⟨N.toNat, by have := hok.1.lo; omega⟩
   obtain ⟨rs', hC, hls'⟩ := hcan hok
   obtain ⟨f, hf⟩ := nx_ex hok
   obtain ⟨htx, hchk⟩ := Iu hok hC hf
   rw [← hls'] at htx hchk
   have hs9 : ∀ l, l ∈ ls → l.length ≤ 1000000000 := fun l hl => by have := hls l hl; omega
   refine DC.skip <| Fin.then <| DC.seq <| DC.seq <| DC.region ?_
   refine Seq.val rfl rfl (Ay (vs := [_, _, _]) rfl rfl Fa De rfl (Ak rfl)) ?_
   refine Seq.rel rfl rfl (Aq en12 rfl rfl rfl (fun w hw => Ke (hck _ _ _ _ 1 hw rfl) (hnilp w) hll hs9)) ?_
   rintro _ _ ⟨Av, lv, cv, Au, lu, cu, c33, rfl, rfl, hcc⟩
   refine Seq.rel0 rfl rfl (Aq en24 rfl rfl rfl (fun w hw => FM (hcc _ _ _ _ 0 hw rfl).1 (hcc _ _ _ _ 0 hw rfl).2 (hp.keep0 hw) hls)) ?_
   rintro _ ⟨s30, e30, rfl, he30⟩
   have he : e30 = 0 ↔ TextOk true ls [] := by
    unfold TextOk
    rcases he30 with ⟨h1, h2, h3, _⟩ | ⟨h1, h2, _⟩ | ⟨h1, h2, h3, _⟩
    ·simp [h1, h2, h3]
    ·simp [h1, h2]
    ·simp [h1, h2]; omega
   refine Seq.pur rfl rfl (Az rfl rfl) ?_
   refine Seq.pur rfl rfl (Bt rfl rfl rfl) ?_
   refine Seq.pur rfl rfl (Bt rfl rfl rfl) ?_
   refine Seq.pur rfl rfl (Aw rfl rfl) ?_
   refine Seq.pur rfl rfl (Aw rfl rfl) ?_
   refine Seq.nil <| Fin.then <| DC.seq ?_
   simp only [List.cons_append, List.nil_append]
   refine DC.own (M := [blk g7 27 #[.bool true, .slice Ar l22 c22, .slice none 0 0], ck, blk g3 24 #[.int .i64 n, .slice A es.length cap]]) (fun w hw => hw.sub (.cons _ (List.Sublist.refl _))) ?_
   refine DC.region ?_
   refine Seq.pur rfl rfl (Az rfl rfl) ?_
   refine Seq.pur rfl rfl (BS rfl rfl rfl) ?_
   refine Seq.nil <| Fin.then ?_
   refine DC.cond rfl (fun c7 => ?_) (fun c7 => ?_)
   ·have hx : chkF n es true ls [] = 181 := by
     have hnt : ¬ TextOk true ls [] := fun h => by rw [he.2 h] at c7; simp at c7
     rw [hchk, if_neg (fun h => hnt (htx.2 h))]
    refine DC.seq ?_
    refine AG (cl := [.v, .r, .v, .r, .q, .q]) (A := [0, 1, 0, 7, 15, 31]) (order := [0, 1, 2, 3, 4, 5]) [] mixed (by kernel_rfl) (fun w hw => hw.pick .nil) ?_
    refine Am rfl rfl rfl rfl (Ay (vs := [_, _]) rfl rfl Bj Bc rfl (Ak rfl)) ?_
    refine BP rfl rfl rfl rfl (Aq en11 rfl rfl rfl (fun w hw => CS (hg.keep0 hw))) ?_
    rintro _ _ ⟨A36, c36, rfl, rfl⟩
    refine Am rfl rfl rfl rfl (Ay (vs := [_, _, _]) rfl rfl Fa De rfl (Ak rfl)) ?_
    refine Cs (V := [slc (.slice A36 es.length c36) 43 2 (prs es), blk g7 27 #[.bool true, .slice Ar l22 c22, .slice none 0 0], ck, blk g3 24 #[.int .i64 n, .slice A es.length cap]]) rfl rfl rfl rfl (by kernel_rfl) (Aq KG rfl rfl rfl (fun w hw => B5 (Ci hw 0 rfl hel) (hck _ _ _ _ 2 hw rfl) (hnilp w) (hp.keep0 hw) hls)) ?_
    rintro _ rfl
    refine Flow.pur rfl rfl rfl (AX rfl rfl rfl) ?_
    refine Flow.pur rfl rfl rfl (Aw rfl rfl) ?_
    refine Flow.end rfl ?_
    simp only [List.map_cons, List.map_nil, List.nil_append, List.cons_append, List.append_nil]
    refine Fin.then <| DC.ret <| Aa ?_
    refine Fin.weak (E' := [(6, _)]) (L' := []) ⟨rfl, trivial⟩ .nil ?_
    refine Aj (.inl rfl) rfl rfl ?_
    first
    | rfl
    | simp [hx]
   ·have htl : (certB true (arou es rs) []).length ≤ 33554432 := htx.1 (he.1 (by simpa using c7))
    rw [if_pos htl] at hchk
    refine DC.skip <| Fin.then <| DC.seq <| DC.region ?_
    refine Seq.pur rfl rfl (Aw rfl rfl) ?_
    refine Seq.nil <| Fin.then ?_
    refine DC.cut (ι := Unit) (fun _ => True) (fun _ => [(1, .slice B rs.length capb), (2, .int .i64 z), (3, .pointer (some ⟨g3, 0, none⟩)), (7, .pointer (some ⟨g7, 0, none⟩)), (11, .int .i64 (if genus2 n es f = 0 then 0 else 183))])
     (fun _ => [blk g7 27 #[.bool true, .slice Ar l22 c22, .slice none 0 0], ck, blk g3 24 #[.int .i64 n, .slice A es.length cap]]) ?first11 ?rest11
    case first11 =>
     refine DC.seq <| DC.region ?_
     refine Seq.val rfl rfl (Ay (vs := [_, _]) rfl rfl Bj Bc rfl (Ak rfl)) ?_
     refine Seq.pur rfl rfl (Az rfl rfl) ?_
     refine Seq.rel0 rfl rfl (Aq en26 rfl rfl rfl (fun w hw => Eu (D := fun r => ∃ b f, r = .bool b ∧ NxOk rs rs.length f ∧ (b = true ↔ genus2 n es f = 0)) (Eq (hg.keep0 hw) (hl.keep0 hw) hs hok))) ?_
     rintro _ ⟨b42, f42, rfl, hnx, hb42⟩
     have hfl : b42 = true ↔ genus2 n es f = 0 := by rw [hb42, CX hok hf hnx]
     refine Seq.nil <| Fin.then ?_
     refine DC.cond rfl (fun c10 => ?_) (fun c10 => ?_)
     ·refine DC.region ?_
      refine Seq.pur rfl rfl (Aw rfl rfl) ?_
      refine Seq.nil ?_
      first
      | exact AZ () trivial ⟨rfl, rfl, rfl, rfl, by rw [if_pos (hfl.1 (by simpa using c10))]; rfl, trivial⟩ (Pick.all _)
      | exact AZ () trivial ⟨rfl, rfl, rfl, rfl, by rw [if_neg (fun h => by rw [hfl.2 h] at c10; simp at c10)]; rfl, trivial⟩ (Pick.all _)
     ·refine DC.skip ?_
      first
      | exact AZ () trivial ⟨rfl, rfl, rfl, rfl, by rw [if_pos (hfl.1 (by simpa using c10))]; rfl, trivial⟩ (Pick.all _)
      | exact AZ () trivial ⟨rfl, rfl, rfl, rfl, by rw [if_neg (fun h => by rw [hfl.2 h] at c10; simp at c10)]; rfl, trivial⟩ (Pick.all _)
    case rest11 =>
     rintro ⟨⟩ _
     refine DC.seq ?_
     refine AG (cl := [.v, .q, .r, .r, .r, .q, .q, .q, .n, .g, .q]) (A := [0, 0, 2, 6, 15, 31, 63, 63, 0, 383, 1023]) (order := [0, 1, 2, 3, 4, 5, 6, 7, 8, 9, 10]) [] mixed (by kernel_rfl) (fun w hw => hw.pick .nil) ?_
     refine Am rfl rfl rfl rfl (Ay (vs := [_, _]) rfl rfl Bj Bc rfl (Ak rfl)) ?_
     refine Flow.pur rfl rfl rfl (Az rfl rfl) ?_
     refine BP rfl rfl rfl rfl (Aq en28 rfl rfl rfl (fun w hw => Gp (hl.keep0 hw) hn hs)) ?_
     rintro v46 _ ⟨ck46, rfl, h46, hb46⟩
     refine Ct (V := [ck46, blk g7 27 #[.bool true, .slice Ar l22 c22, .slice none 0 0], ck, blk g3 24 #[.int .i64 n, .slice A es.length cap]]) rfl rfl rfl rfl (by kernel_rfl) (Aq en27 rfl rfl rfl (fun w hw => Mirror_pk (hb46 _ _ _ _ 0 hw rfl) hn hs)) ?_
     rintro v47 _ ⟨ck47, ms, rfl, h47, ps, hM, hT⟩
     have hpm := Fv hM hT
     have hnm : ms.length ≤ 1000000000 := by rw [hpm.1]; exact hn
     have hsm := Ds hpm hs
     have hokm := Cf hok hpm
     refine Ct (V := [ck47, ck46, blk g7 27 #[.bool true, .slice Ar l22 c22, .slice none 0 0], ck, blk g3 24 #[.int .i64 n, .slice A es.length cap]]) rfl rfl rfl rfl (by kernel_rfl) (Aq en25 rfl rfl rfl (fun w hw => CF (hg.keep0 hw) (h47 _ _ _ _ 0 hw rfl) hnm hsm)) ?_
     rintro _ _ ⟨Ar2, l48, c48, b48, ck48, ls2, rfl, hb48, rfl, hck48, hll2, hls2, hcan2⟩
     obtain ⟨qs, hQ, hls2'⟩ := hcan2 hokm
     have hchk2 := chk_mir hok hM hT hQ hf
     rw [← hls2', if_pos htl] at hchk2
     refine Flow.pur rfl rfl rfl (Az rfl rfl) ?_
     refine Flow.pur rfl rfl rfl (Bt rfl rfl rfl) ?_
     refine Flow.pur rfl rfl rfl (Bt rfl rfl rfl) ?_
     refine AY rfl rfl rfl rfl (AH rfl LK rfl) fun g12 => ?_
     refine Flow.sto (V := [blk g12 27 _, ck48, ck47, ck46, blk g7 27 #[.bool true, .slice Ar l22 c22, .slice none 0 0], ck, blk g3 24 #[.int .i64 n, .slice A es.length cap]]) rfl rfl rfl rfl rfl (AA (cs' := #[_, _, _]) rfl rfl rfl De rfl (Nat.le_of_ble_eq_true rfl) rfl) (fun w hw => hw.pick (.nil)) ?_
     refine Flow.pur rfl rfl rfl (Aw rfl rfl) ?_
     refine Flow.end rfl ?_
     simp only [List.map_cons, List.map_nil, List.nil_append, List.cons_append, List.append_nil]
     refine Fin.weak (E' := [(1, .slice B rs.length capb), (2, .int .i64 z), (3, .pointer (some ⟨g3, 0, none⟩)), (7, .pointer (some ⟨g7, 0, none⟩)), (11, .int .i64 (if genus2 n es f = 0 then 0 else 183)), (12, .pointer (some ⟨g12, 0, none⟩))]) ⟨rfl, rfl, rfl, rfl, rfl, rfl, trivial⟩
      (L' := [blk g12 27 #[.bool true, .slice Ar2 l48 c48, .slice none 0 0], ck48, blk g7 27 #[.bool true, .slice Ar l22 c22, .slice none 0 0], ck, blk g3 24 #[.int .i64 n, .slice A es.length cap]]) (.cons 0 rfl (.cons 0 rfl (.cons 2 rfl (.cons 2 rfl (.cons 2 rfl .nil))))) ?_
     refine Fin.then <| DC.seq <| DC.seq ?_
     refine AG (cl := [.v, .r, .v, .r, .q, .q, .q, .v, .r, .v, .r, .q, .q, .q]) (A := [0, 1, 0, 7, 0, 31, 63, 127, 255, 127, 1023, 127, 4095, 8191]) (order := [0, 1, 2, 3, 4, 5, 6, 7, 8, 9, 10, 11, 12, 13]) [] mixed (by kernel_rfl) (fun w hw => hw.pick .nil) ?_
     refine Am rfl rfl rfl rfl (Ay (vs := [_, _]) rfl rfl Bj Bc rfl (Ak rfl)) ?_
     refine BP rfl rfl rfl rfl (Aq en11 rfl rfl rfl (fun w hw => CS (hg.keep0 hw))) ?_
     rintro _ _ ⟨A52, c52, rfl, rfl⟩
     refine Am rfl rfl rfl rfl (Ay (vs := [_, _, _]) rfl rfl Fa De rfl (Ak rfl)) ?_
     refine Cs (V := [slc (.slice A52 es.length c52) 43 2 (prs es), blk g12 27 #[.bool true, .slice Ar2 l48 c48, .slice none 0 0], ck48, blk g7 27 #[.bool true, .slice Ar l22 c22, .slice none 0 0], ck, blk g3 24 #[.int .i64 n, .slice A es.length cap]]) rfl rfl rfl rfl (by kernel_rfl) (Aq KG rfl rfl rfl (fun w hw => B5 (Ci hw 0 rfl hel) (hck _ _ _ _ 4 hw rfl) (hnilp w) (hp.keep0 hw) hls)) ?_
     rintro _ rfl
     refine Flow.pur rfl rfl rfl (Az rfl rfl) ?_
     refine Flow.pur rfl rfl rfl (BS rfl rfl rfl) ?_
     refine Flow.pur rfl rfl rfl (Az rfl rfl) ?_
     refine Flow.split 57 rfl (fun k13_6 => ?_) (fun k13_6 => ?_)
     ·rw [hchk] at k13_6
      simp at k13_6
     ·refine Am rfl rfl rfl rfl (Ay (vs := [_, _]) rfl rfl Bj Bc rfl (Ak rfl)) ?_
      refine BP rfl rfl rfl rfl (Aq en11 rfl rfl rfl (fun w hw => CS (hg.keep0 hw))) ?_
      rintro _ _ ⟨A59, c59, rfl, rfl⟩
      refine Am rfl rfl rfl rfl (Ay (vs := [_, _, _]) rfl rfl Fa De rfl (Ak rfl)) ?_
      refine Cs (V := [slc (.slice A59 es.length c59) 43 2 (prs es), slc (.slice A52 es.length c52) 43 2 (prs es), blk g12 27 #[.bool true, .slice Ar2 l48 c48, .slice none 0 0], ck48, blk g7 27 #[.bool true, .slice Ar l22 c22, .slice none 0 0], ck, blk g3 24 #[.int .i64 n, .slice A es.length cap]]) rfl rfl rfl rfl (by kernel_rfl) (Aq KG rfl rfl rfl (fun w hw => B5 (Ci hw 0 rfl hel) (hck48 _ _ _ _ 3 hw rfl) (hnilp w) (hp.keep0 hw) hls2)) ?_
      rintro _ rfl
      refine Flow.pur rfl rfl rfl (Az rfl rfl) ?_
      refine Flow.pur rfl rfl rfl (BS rfl rfl rfl) ?_
      refine Flow.pur rfl rfl rfl (Bl rfl rfl rfl) ?_
      refine Flow.end rfl ?_
      simp only [List.map_cons, List.map_nil, List.nil_append, List.cons_append, List.append_nil]
      refine Fin.then ?_
      refine DC.cond rfl (fun c13 => ?_) (fun c13 => ?_)
      ·rw [hchk2] at c13
       simp at c13
      ·refine DC.skip <| Fin.then <| DC.seq <| DC.seq <| DC.region ?_
       refine Seq.pur rfl rfl (Az rfl rfl) ?_
       refine Seq.pur rfl rfl (Cj rfl rfl rfl) ?_
       refine Seq.pur rfl rfl (Az rfl rfl) ?_
       refine Seq.split 67 rfl (fun k15_2 => ?_) (fun k15_2 => ?_)
       ·refine Seq.skip rfl rfl ?_
        refine Seq.skip rfl rfl ?_
        refine Seq.skip rfl rfl ?_
        refine Seq.skip rfl rfl ?_
        refine Seq.pur rfl rfl (Bg rfl rfl rfl) ?_
        refine Seq.pur rfl rfl (Az rfl rfl) ?_
        refine Seq.skip rfl rfl ?_
        refine Seq.skip rfl rfl ?_
        refine Seq.skip rfl rfl ?_
        refine Seq.skip rfl rfl ?_
        refine Seq.skip rfl rfl ?_
        refine Seq.skip rfl rfl ?_
        refine Seq.pur rfl rfl (Bg rfl rfl rfl) ?_
        refine Seq.nil <| Fin.then ?_
        refine AM rfl ?_
        refine DC.seq <| DC.region ?_
        refine Seq.pur rfl rfl (Aw rfl rfl) ?_
        refine Seq.nil <| Fin.then <| DC.ret <| Aa ?_
        refine Fin.weak (E' := [(6, _)]) (L' := []) ⟨rfl, trivial⟩ .nil ?_
        refine Aj (.inl rfl) rfl rfl ?_
        first
        | rfl
        | simp [hx]
       ·refine Seq.pur rfl rfl (Az rfl rfl) ?_
        refine Seq.pur rfl rfl (Az rfl rfl) ?_
        refine Seq.pur rfl rfl (BM rfl rfl Tryz.underlying59) ?_
        refine Seq.pur rfl rfl (Ck rfl rfl rfl) ?_
        refine Seq.pur rfl rfl (Bl rfl rfl rfl) ?_
        refine Seq.pur rfl rfl (Az rfl rfl) ?_
        refine Seq.split 73 rfl (fun k15_8 => ?_) (fun k15_8 => ?_)
        ·refine Seq.skip rfl rfl ?_
         refine Seq.skip rfl rfl ?_
         refine Seq.skip rfl rfl ?_
         refine Seq.skip rfl rfl ?_
         refine Seq.skip rfl rfl ?_
         refine Seq.skip rfl rfl ?_
         refine Seq.pur rfl rfl (Bg rfl rfl rfl) ?_
         refine Seq.nil <| Fin.then ?_
         refine AM rfl ?_
         refine DC.seq <| DC.region ?_
         refine Seq.pur rfl rfl (Aw rfl rfl) ?_
         refine Seq.nil <| Fin.then <| DC.ret <| Aa ?_
         refine Fin.weak (E' := [(6, _)]) (L' := []) ⟨rfl, trivial⟩ .nil ?_
         refine Aj (.inl rfl) rfl rfl ?_
         first
         | rfl
         | simp [hx]
        ·refine Seq.pur rfl rfl (Az rfl rfl) ?_
         refine Seq.pur rfl rfl (Az rfl rfl) ?_
         have hz0 : 0 ≤ z := by simp at k15_2; omega
         have hz1 : z < rs.length := by simp at k15_8; omega
         obtain ⟨zn, rfl⟩ : ∃ zn : Nat, z = zn := ⟨z.toNat, by omega⟩
         have hzl : zn < rs.length := by omega
         obtain ⟨l, hlz⟩ : ∃ l, rs[zn]? = some l := ⟨_, List.getElem?_eq_getElem hzl⟩
         obtain ⟨adB, lv0, rfl, hcz, hslz⟩ := hrb zn l hlz
         obtain ⟨Ax, cx, rfl, _⟩ := hslz
         refine Seq.pur rfl rfl (Ai (ad' := adB.add zn) rfl rfl rfl Tryz.underlying59 Bn (by omega) (by omega) (by rw [Int.toNat_natCast])) ?_
         refine Seq.val rfl rfl (Ah rfl rfl Bo (AE hcz)) ?_
         refine Seq.pur rfl rfl (BM rfl rfl Tryz.underlying44) ?_
         refine Seq.pur rfl rfl (Cj rfl rfl rfl) ?_
         refine Seq.pur rfl rfl (Bl rfl rfl rfl) ?_
         refine Seq.nil <| Fin.then ?_
         refine DC.cond rfl (fun c15 => ?_) (fun c15 => ?_)
         ·refine DC.seq <| DC.region ?_
          refine Seq.pur rfl rfl (Aw rfl rfl) ?_
          refine Seq.nil <| Fin.then <| DC.ret <| Aa ?_
          refine Fin.weak (E' := [(6, _)]) (L' := []) ⟨rfl, trivial⟩ .nil ?_
          refine Aj (.inl rfl) rfl rfl ?_
          first
          | rfl
          | simp [hx]
         ·have hl4 : 4 ≤ l.length := by simp at c15; omega
          refine DC.skip <| Fin.then <| DC.seq <| DC.region ?_
          refine Seq.pur rfl rfl (Az rfl rfl) ?_
          refine Seq.rel rfl rfl (Aq en28 rfl rfl rfl (fun w hw => Et (hl.keep0 hw) hn hs)) ?_
          rintro _ _ ⟨As, lS, cS, msS, rfl, rfl, hmsS⟩
          have hmsl : msS.length = rs.length := by rw [← hmsS]; simp
          refine Seq.pur rfl rfl (Aw rfl rfl) ?_
          refine Seq.nil <| Fin.then <| DC.seq ?_
          refine DC.own (M := slc (.slice As lS cS) 44 1 (rowsV msS) :: blk g3 24 #[.int .i64 n, .slice A es.length cap] :: rowsC 3 msS) (fun w hw => ?_) ?_
          ·have k1 := hw.sub (L' := (slc (.slice As lS cS) 44 1 (rowsV msS) :: rowsC 3 msS) ++ [blk g3 24 #[.int .i64 n, .slice A es.length cap]]) (List.Sublist.append (List.Sublist.refl _) (.cons _ (.cons _ (.cons _ (.cons _ (.cons _ (.cons _ (List.Sublist.refl _))))))))
           refine k1.perm ?_
           rw [List.cons_append]
           exact (List.perm_append_comm (l₁ := [blk g3 24 #[.int .i64 n, .slice A es.length cap]])).cons _
          refine DC.fact (φ := lS = rs.length ∧ (∃ ad, As = some ad) ∧ ∃ adp cp, ∃ p, msS[zn]? = some p ∧ p.2 = l ∧ p.1 = .slice (some adp) l.length cp) (fun w hw => ?_) ?_
          ·obtain ⟨A', len', cap', e, h1, hr, _⟩ := CE hw
           cases e
           rw [rowsV_length, Nat.mul_one] at h1
           obtain ⟨p, hp⟩ : ∃ p, msS[zn]? = some p := ⟨_, List.getElem?_eq_getElem (by omega)⟩
           have hp2 : p.2 = l := by
            have : (msS.map Prod.snd)[zn]? = some p.2 := by simp [hp]
            rw [hmsS, hlz] at this
            exact (Option.some.inj this).symm
           obtain ⟨ad, e, _⟩ := hr zn p.1 (by simp [rowsV, hp])
           have h2 := Gi (F := [slc (.slice As lS cS) 44 1 (rowsV msS), blk g3 24 #[.int .i64 n, .slice A es.length cap]]) (by simpa using hw) hp (by rw [hp2]; have := hs l (List.mem_of_getElem? hlz); omega)
           obtain ⟨A2, c2, e2, hr2, _⟩ := h2
           obtain ⟨ad2, e3, _⟩ := hr2.int (i := 0) (x := p.2[0]'(by rw [hp2]; omega)) (by simp)
           subst e3
           exact ⟨by omega, ⟨ad, e⟩, ad2, c2, p, hp, hp2, by rw [e2, hp2]⟩
          rintro ⟨rfl, ⟨ads, rfl⟩, adp, cp, p, hpz, hp2, hp1⟩
          obtain rfl : p = (.slice (some adp) l.length cp, l) := Prod.ext hp1 hp2
          obtain ⟨x, hx2⟩ : ∃ x, l[1 + 1]? = some x := ⟨_, List.getElem?_eq_getElem (by omega)⟩
          obtain ⟨y, hy1⟩ : ∃ x, l[1]? = some x := ⟨_, List.getElem?_eq_getElem (by omega)⟩
          have hrow : (rowsV msS)[zn]? = some (.slice (some adp) l.length cp) := by simp [rowsV, hpz]
          have hr2 : ∀ (c1 c2 : Chunk), (c1 :: c2 :: rowsC 3 msS)[2 + zn]? = some (slc (.slice (some adp) l.length cp) 3 1 (ints l)) := fun c1 c2 => row2 hpz
          refine AG (cl := [.q, .q, .q, .v, .q, .q, .q, .v, .q, .q, .q, .v, .q, .v, .q, .q, .q, .v, .q, .v, .q, .g, .q, .g]) (A := [0, 0, 3, 7, 0, 0, 48, 112, 0, 0, 768, 1792, 3840, 7936, 0, 0, 49152, 114688, 245760, 507904, 1048575, 2097151, 4194303, 8388607]) (order := [0, 1, 2, 3, 4, 5, 6, 7, 8, 9, 10, 11, 12, 13, 14, 15, 16, 17, 18, 19, 20, 21, 22, 23]) [] mixed (by kernel_rfl) (fun w hw => hw.pick .nil) ?_
          refine Flow.pur rfl rfl rfl (Az rfl rfl) ?_
          refine Flow.pur rfl rfl rfl (Az rfl rfl) ?_
          refine Flow.pur rfl rfl rfl (Ai (ad' := ads.add zn) rfl rfl rfl Tryz.underlying59 Bn (by omega) (by omega) (by rw [Int.toNat_natCast])) ?_
          refine Am rfl rfl rfl rfl (Ah rfl rfl Bo (Dh (i := 0) rfl hrow)) ?_
          refine Flow.pur rfl rfl rfl (Az rfl rfl) ?_
          refine Flow.pur rfl rfl rfl (Az rfl rfl) ?_
          refine Flow.pur rfl rfl rfl (Ai (ad' := ads.add zn) rfl rfl rfl Tryz.underlying59 Bn (by omega) (by omega) (by rw [Int.toNat_natCast])) ?_
          refine Am rfl rfl rfl rfl (Ah rfl rfl Bo (Dh (i := 0) rfl hrow)) ?_
          refine Flow.pur rfl rfl rfl (Az rfl rfl) ?_
          refine Flow.pur rfl rfl rfl (Az rfl rfl) ?_
          refine Flow.pur rfl rfl rfl (Ai (ad' := ads.add zn) rfl rfl rfl Tryz.underlying59 Bn (by omega) (by omega) (by rw [Int.toNat_natCast])) ?_
          refine Am rfl rfl rfl rfl (Ah rfl rfl Bo (Dh (i := 0) rfl hrow)) ?_
          refine Flow.pur rfl rfl rfl (Ai (ad' := adp.add 2) rfl rfl rfl Tryz.underlying44 AN (by omega) (by omega) rfl) ?_
          refine Am rfl rfl rfl rfl (Ah rfl rfl AO (BE (i := 2 + zn) (q := x) (hr2 _ _) hx2 (by have := hs l (List.mem_of_getElem? hlz); omega))) ?_
          refine Flow.pur rfl rfl rfl (Az rfl rfl) ?_
          refine Flow.pur rfl rfl rfl (Az rfl rfl) ?_
          refine Flow.pur rfl rfl rfl (Ai (ad' := ads.add zn) rfl rfl rfl Tryz.underlying59 Bn (by omega) (by omega) (by rw [Int.toNat_natCast])) ?_
          refine Am rfl rfl rfl rfl (Ah rfl rfl Bo (Dh (i := 0) rfl hrow)) ?_
          refine Flow.pur rfl rfl rfl (Ai (ad' := adp.add 1) rfl rfl rfl Tryz.underlying44 AN (by omega) (by omega) rfl) ?_
          refine Am rfl rfl rfl rfl (Ah rfl rfl AO (BE (i := 2 + zn) (q := y) (hr2 _ _) hy1 (by have := hs l (List.mem_of_getElem? hlz); omega))) ?_
          refine Flow.pur rfl rfl rfl (Ai (ad' := adp.add 1) rfl rfl rfl Tryz.underlying44 AN (by omega) (by omega) rfl) ?_
          refine AL rfl rfl rfl rfl (Gl (i := 2 + zn) (j := 1) (hr2 _ _) rfl rfl rfl AN (by omega)) (fun w hw => hw.pick (.nil)) ?_
          refine Flow.pur rfl rfl rfl (Ai (ad' := adp.add 2) rfl rfl rfl Tryz.underlying44 AN (by omega) (by omega) rfl) ?_
          refine AL rfl rfl rfl rfl (Gl (i := 2 + zn) (j := 2) (row2s hpz) rfl rfl rfl AN (by simp; omega)) (fun w hw => hw.pick (.nil)) ?_
          refine Flow.end rfl ?_
          simp only [List.map_cons, List.map_nil, List.nil_append, List.cons_append, List.append_nil]
          obtain ⟨msT, hmsT⟩ : ∃ msT, msT = msS.set zn (.slice (some adp) l.length cp, swpL l 1 x y) := ⟨_, rfl⟩
          obtain ⟨rsT, hrsT⟩ : ∃ rsT, rsT = rs.set zn (swpL l 1 x y) := ⟨_, rfl⟩
          have hmT : msT.map Prod.snd = rsT := by rw [hmsT, hrsT, List.map_set, hmsS]
          have hRT : RowsR (fun l m => m.Perm l) rs rsT := by rw [hrsT]; exact LV hlz (Hg hx2 hy1)
          have hokT := Cf hok hRT
          have hnT : rsT.length ≤ 1000000000 := by rw [hRT.1]; exact hn
          have hsT := Ds hRT hs
          refine Fin.own (M := slc (.slice (some ads) rs.length cS) 44 1 (rowsV msT) :: blk g3 24 #[.int .i64 n, .slice A es.length cap] :: rowsC 3 msT) (fun w hw => ?_) ?_
          ·rw [hmsT, Kb hpz]
           exact L4 hpz rfl hw
          refine Fin.then <| DC.seq ?_
          have hLs : ∀ w', Own w [] w' (slc (.slice (some ads) rs.length cS) 44 1 (rowsV msT) :: blk g3 24 #[.int .i64 n, .slice A es.length cap] :: rowsC 3 msT) → LsV w' (.slice (some ads) rs.length cS) rsT := fun w' hw => by
           have := H7 (F := [blk g3 24 #[.int .i64 n, .slice A es.length cap]]) (by simpa using hw) (by rw [hmsT, List.length_set]; omega) (fun p hp => by have := hsT p.2 (by rw [← hmT]; exact List.mem_map_of_mem hp); omega)
           rwa [hmT] at this
          obtain ⟨fT, hfT⟩ := nx_ex hokT
          refine DC.region ?_
          refine Seq.val rfl rfl (Ay (vs := [_, _]) rfl rfl Bj Bc rfl (Ak rfl)) ?_
          refine Seq.pur rfl rfl (Az rfl rfl) ?_
          refine Seq.rel rfl rfl (Aq en25 rfl rfl rfl (fun w hw => CF (hg.keep0 hw) (hLs _ hw) hnT hsT)) ?_
          rintro _ _ ⟨Ar3, l3, c3, b3, ck3, ls3, rfl, hb3, rfl, hck3, hll3, hls3, hcan3⟩
          obtain ⟨qs3, hQ3, hls3'⟩ := hcan3 hokT
          have hchk3 := (Iu hokT hQ3 hfT).2
          rw [← hls3', EJ hRT, if_pos htl] at hchk3
          refine Seq.pur rfl rfl (Az rfl rfl) ?_
          refine Seq.pur rfl rfl (Bt rfl rfl rfl) ?_
          refine Seq.pur rfl rfl (Bt rfl rfl rfl) ?_
          refine Seq.new rfl rfl (AH rfl LK rfl) fun g15 => ?_
          refine Seq.sto rfl rfl (AA (cs' := #[_, _, _]) rfl rfl rfl De rfl (Nat.le_of_ble_eq_true rfl) rfl) ?_
          refine Seq.pur rfl rfl (Aw rfl rfl) ?_
          refine Seq.nil <| Fin.then <| DC.seq ?_
          simp only [List.cons_append, List.nil_append]
          refine DC.region ?_
          refine Seq.pur rfl rfl (Aw rfl rfl) ?_
          refine Seq.nil <| Fin.then ?_
          refine DC.cut (ι := Unit) (fun _ => True) (fun _ => [(3, .pointer (some ⟨g3, 0, none⟩)), (15, .pointer (some ⟨g15, 0, none⟩)), (11, .int .i64 (if genus2 n es fT = 0 then 0 else 183))])
           (fun _ => [blk g15 27 #[.bool true, .slice Ar3 l3 c3, .slice none 0 0], ck3, blk g3 24 #[.int .i64 n, .slice A es.length cap]]) ?first22 ?rest22
          case first22 =>
           refine DC.seq <| DC.region ?_
           refine Seq.val rfl rfl (Ay (vs := [_, _]) rfl rfl Bj Bc rfl (Ak rfl)) ?_
           refine Seq.pur rfl rfl (Az rfl rfl) ?_
           refine Seq.rel0 rfl rfl (Aq en26 rfl rfl rfl (fun w hw => Eu (D := fun r => ∃ b f, r = .bool b ∧ NxOk rsT rsT.length f ∧ (b = true ↔ genus2 n es f = 0)) (Eq (hg.keep0 hw) (hLs _ (hw.sub (.cons _ (.cons _ (List.Sublist.refl _))))) hsT hokT))) ?_
           rintro _ ⟨b43, f43, rfl, hnx3, hb43⟩
           have hfl3 : b43 = true ↔ genus2 n es fT = 0 := by rw [hb43, CX hokT hfT hnx3]
           refine Seq.nil <| Fin.then ?_
           refine DC.cond rfl (fun c21 => ?_) (fun c21 => ?_)
           ·refine DC.region ?_
            refine Seq.pur rfl rfl (Aw rfl rfl) ?_
            refine Seq.nil ?_
            first
            | exact AZ () trivial ⟨rfl, rfl, by show some (Value.int .i64 0) = _; rw [if_pos (hfl3.1 (by simpa using c21))], trivial⟩ (.cons 0 rfl (.cons 0 rfl (.cons 1 rfl .nil)))
            | exact AZ () trivial ⟨rfl, rfl, by show some (Value.int .i64 183) = _; rw [if_neg (fun h => by rw [hfl3.2 h] at c21; simp at c21)], trivial⟩ (.cons 0 rfl (.cons 0 rfl (.cons 1 rfl .nil)))
           ·refine DC.skip ?_
            first
            | exact AZ () trivial ⟨rfl, rfl, by show some (Value.int .i64 0) = _; rw [if_pos (hfl3.1 (by simpa using c21))], trivial⟩ (.cons 0 rfl (.cons 0 rfl (.cons 1 rfl .nil)))
            | exact AZ () trivial ⟨rfl, rfl, by show some (Value.int .i64 183) = _; rw [if_neg (fun h => by rw [hfl3.2 h] at c21; simp at c21)], trivial⟩ (.cons 0 rfl (.cons 0 rfl (.cons 1 rfl .nil)))
          case rest22 =>
           rintro ⟨⟩ _
           have hx := hchk3
           refine DC.seq ?_
           refine AG (cl := [.v, .r, .v, .r, .q, .q, .q]) (A := [0, 1, 0, 7, 0, 31, 63]) (order := [0, 1, 2, 3, 4, 5, 6]) [] mixed (by kernel_rfl) (fun w hw => hw.pick .nil) ?_
           refine Am rfl rfl rfl rfl (Ay (vs := [_, _]) rfl rfl Bj Bc rfl (Ak rfl)) ?_
           refine BP rfl rfl rfl rfl (Aq en11 rfl rfl rfl (fun w hw => CS (hg.keep0 hw))) ?_
           rintro _ _ ⟨A115, c115, rfl, rfl⟩
           refine Am rfl rfl rfl rfl (Ay (vs := [_, _, _]) rfl rfl Fa De rfl (Ak rfl)) ?_
           refine Cs (V := [slc (.slice A115 es.length c115) 43 2 (prs es), blk g15 27 #[.bool true, .slice Ar3 l3 c3, .slice none 0 0], ck3, blk g3 24 #[.int .i64 n, .slice A es.length cap]]) rfl rfl rfl rfl (by kernel_rfl) (Aq KG rfl rfl rfl (fun w hw => B5 (Ci hw 0 rfl hel) (hck3 _ _ _ _ 2 hw rfl) (hnilp w) (hp.keep0 hw) hls3)) ?_
           rintro _ rfl
           refine Flow.pur rfl rfl rfl (Az rfl rfl) ?_
           refine Flow.pur rfl rfl rfl (AX rfl rfl rfl) ?_
           refine Flow.pur rfl rfl rfl (Aw rfl rfl) ?_
           refine Flow.end rfl ?_
           simp only [List.map_cons, List.map_nil, List.nil_append, List.cons_append, List.append_nil]
           refine Fin.then <| DC.ret ?_
           refine Fin.weak (E' := [(6, _)]) (L' := []) ⟨rfl, trivial⟩ .nil ?_
           refine Aj (.inl rfl) rfl rfl ?_
           first
           | rfl
           | simp [hx]
end Go.Fl

namespace Go.Fl
open Go Go.ChangeShapes Go.WideShapes Go.Deep
section
variable {H : Type} {enc : TypeId × Value → H} {P : Program} {W : World} {held : Bool}
def Light (P : Program) (t : TypeId) (d : DataW H) : Prop := ∀ n ∈ d.weights P t, n ≤ reachBytes
theorem open_pr {t e : TypeId} {f0 f1 : Field} {n : Nat} {v : Value} {y : DataW H × List MemPlace} (ht : P.underlying t = some (.slice e)) (he : P.underlying e = some (.struct #[f0, f1])) (ce : P.cellsOf e = 2) (o0 : f0.offset = 0) (o1 : f1.offset = 1)
  (c0 : P.cellsOf f0.type = 1) (c1 : P.cellsOf f1.type = 1) (i0 : P.underlying f0.type = some (.int .i64)) (i1 : P.underlying f1.type = some (.int .i64)) (hb : P.bytesOf e = 16)
  (h : DataW.trod enc P W 0 (fun _ => true) held n t [v] = some y) (hw : Light P t y.1) : ∃ es, PrV W v es ∧ ∀ x ∈ es, (Lit.int .i64 x.1).wf = true ∧ (Lit.int .i64 x.2).wf = true := by
 rcases open_slice_pairs ht he ce o0 o1 c0 c1 h with ⟨h1, h2⟩ | ⟨a, len, cap, m, n', V0, V1, D0, D1, P0, P1, h1, h2, h3, h4, h5, h6, h7⟩
 ·cases h1
  exact ⟨[], ⟨none, 0, rfl, fun j u hj => by simp [prs] at hj, Nat.le_refl _, by omega, by simp⟩, by simp⟩
 ·cases h1
  simp only [if_true] at h5
  subst h5 h6
  have hwt : (len + (m - len)) * 16 ≤ reachBytes := hw _ (by simp [DataW.weights, ht, hb])
  have hr : reachBytes = 140737488351232 := by decide
  simp only [maxLen] at h4
  have hV : ∀ i, i < len → ∃ q : Pr, W.cell? (a.add (i * 2)) = some (.int .i64 q.1) ∧ W.cell? (a.add (i * 2 + 1)) = some (.int .i64 q.2) ∧ (Lit.int .i64 q.1).wf = true ∧ (Lit.int .i64 q.2).wf = true := by
   intro i hi
   obtain ⟨k0, k1, k2, k3⟩ := h7 i (by omega)
   obtain ⟨x, hx, _, hxw⟩ := DataW.trod_int i0 k2
   obtain ⟨z, hz, _, hzw⟩ := DataW.trod_int i1 k3
   rw [(List.cons.inj hx).1] at k0
   rw [(List.cons.inj hz).1] at k1
   exact ⟨(x, z), k0, k1, hxw, hzw⟩
  obtain ⟨q, hq⟩ := choose_lt hV
  have hl : ((List.range len).map q).length = len := by simp
  have hg : ∀ (es : List Pr) (i : Nat) (u : Value), (prs es)[i]? = some u → ∃ p : Pr, es[i / 2]? = some p ∧ u = .int .i64 (if i % 2 = 0 then p.1 else p.2) := by
   intro es
   induction es with
   | nil => intro i u h; simp [prs] at h
   | cons e r ih =>
    intro i u h
    match i, h with
    | 0, h => simp [prs] at h; exact ⟨e, by simp, by simp [h]⟩
    | 1, h => simp [prs] at h; exact ⟨e, by simp, by simp [h]⟩
    | i + 2, h =>
     simp only [prs, List.getElem?_cons_succ] at h
     obtain ⟨p, hp, hu⟩ := ih i u h
     refine ⟨p, by rw [show (i + 2) / 2 = i / 2 + 1 by omega, List.getElem?_cons_succ]; exact hp, by rw [hu]; congr 1; rw [show (i + 2) % 2 = i % 2 by omega]⟩
  refine ⟨(List.range len).map q, ⟨some a, m, by rw [hl], fun j u hj => ⟨a, rfl, ?_⟩, by rw [hl]; omega, by omega, by rw [hl]; omega⟩, fun x hx => ?_⟩
  ·obtain ⟨p, hp, hu⟩ := hg _ _ _ hj
   have hj2 := (List.getElem?_eq_some_iff.1 hp).1
   simp only [hl] at hj2
   obtain ⟨g0, g1, _, _⟩ := hq (j / 2) hj2
   rw [List.getElem?_map, List.getElem?_range hj2] at hp
   simp only [Option.map_some, Option.some.injEq] at hp
   subst hp hu
   by_cases hm : j % 2 = 0
   ·rw [if_pos hm, ← g0]; congr 2; omega
   ·rw [if_neg hm, ← g1]; congr 2; omega
  ·simp only [List.mem_map, List.mem_range] at hx
   obtain ⟨i, hi, rfl⟩ := hx
   exact (hq i hi).2.2
theorem light_agg {t : TypeId} {fs : Array Field} {parts : List (DataW H)} (ht : P.underlying t = some (.struct fs)) (h : Light P t (.agg parts)) : ∀ n ∈ DataW.weightsEach P (fs.toList.map (·.type)) parts, n ≤ reachBytes := by
 intro n hn
 exact h n (by simp only [DataW.weights, ht]; exact hn)
theorem light_cons {t : TypeId} {ts : List TypeId} {d : DataW H} {r : List (DataW H)} (h : ∀ n ∈ DataW.weightsEach P (t :: ts) (d :: r), n ≤ reachBytes) : Light P t d ∧ ∀ n ∈ DataW.weightsEach P ts r, n ≤ reachBytes :=
 ⟨fun n hn => h n (by simp only [DataW.weightsEach, List.mem_append]; exact .inl hn), fun n hn => h n (by simp only [DataW.weightsEach, List.mem_append]; exact .inr hn)⟩
theorem light_all {ts : List TypeId} {ds : List (DataW H)} (h : (DataW.weightsEach P ts ds).all (· ≤ reachBytes) = true) : ∀ n ∈ DataW.weightsEach P ts ds, n ≤ reachBytes :=
 fun n hn => by simpa using List.all_eq_true.1 h n hn
theorem own_belowO {w w' : World} {L : List Chunk} (h : Own w [] w' L) : RowKit.Below w.heap.size w w' := ⟨h.os, h.tape, h.output, h.size, fun k hk => h.old k hk (by simp)⟩
end
end Go.Fl

namespace Go.Fl
open Go Go.Proofs Go.ChangeShapes Go.WideShapes Go.Deep Go.Joins
open Go.Proofs.YthjmapekjggdjaaGreatDoor.Rows
section
variable {H : Type} {enc : TypeId × Value → H} {W : World}
theorem bulk_mem {ds : List (DataW H)} {d : DataW H} (h : d ∈ ds) : uptoBulk d ≤ uptoBulkAll ds := by
 induction ds with
 | nil => cases h
 | cons a r ih =>
  rw [uptoBulkAll]
  rcases List.mem_cons.1 h with rfl | h
  ·omega
  ·have := ih h; omega
theorem bulk_pos (d : DataW H) : 1 ≤ uptoBulk d := by
 cases d with
 | lit l => cases l <;> simp [uptoBulk]
 | _ => simp [uptoBulk]
theorem JM (ds : List (DataW H)) : ds.length ≤ uptoBulkAll ds := by
 induction ds with
 | nil => simp [uptoBulkAll]
 | cons a r ih => rw [uptoBulkAll, List.length_cons]; have := bulk_pos a; omega
theorem Km {n B : Nat} {v : Value} {y : DataW H × List MemPlace} (h : DataW.trod enc Tryz.prog W 0 (fun _ => true) true n 44 [v] = some y) (hb : uptoBulk y.1 ≤ B) (hB : B ≤ 1048576) : ∃ xs, SlV W v xs ∧ xs.length ≤ B := by
 rcases open_ints Tryz.underlying44 Tryz.underlying3 (by kernel_rfl) h with ⟨h1, h2⟩ | ⟨a, len, cap, zs, h1, h2, h3, h4, h5, h6, h7, h8⟩
 ·cases h1
  exact ⟨[], ⟨none, 0, rfl, fun j u hj => by simp [ints] at hj, Nat.le_refl _, by omega, by simp⟩, by simp⟩
 ·cases h1
  simp only [if_true] at h5
  subst h6
  have hl := JM (lits (H := H) .i64 (zs.take len))
  have hlen : (zs.take len).length = len := by simp; omega
  have hll : (lits (H := H) .i64 (zs.take len)).length = len := by rw [← hlen]; simp [lits]
  rw [uptoBulk] at hb
  simp only [maxLen] at h4
  refine ⟨zs.take len, ⟨some a, cap, by rw [hlen], fun j u hj => ⟨a, rfl, ?_⟩, by omega, by omega, by omega⟩, by omega⟩
  have hj2 := (List.getElem?_eq_some_iff.1 hj).1
  simp only [ints_length, hlen] at hj2
  have h9 := h7 j (by omega)
  rw [h9, ← hj]
  simp [ints, List.getElem?_take, hj2, List.getElem?_eq_getElem (show j < zs.length by omega)]
theorem I6 {n : Nat} {v : Value} {y : DataW H × List MemPlace} (h : DataW.trod enc Tryz.prog W 0 (fun _ => true) true n 22 [v] = some y) (hw : Light Tryz.prog 22 y.1) : ∃ es, PrV W v es ∧ ∀ x ∈ es, (Lit.int .i64 x.1).wf = true ∧ (Lit.int .i64 x.2).wf = true :=
 open_pr Tryz.underlying22 Tryz.underlying43 (by kernel_rfl) rfl rfl (by kernel_rfl) (by kernel_rfl) Tryz.underlying3 Tryz.underlying3 (by kernel_rfl) h hw
theorem open_graphB {b : Nat} {v : Value} {d : DataW H} {p : List MemPlace} (hv : Value.okWide Tryz.prog W .any b 24 v) (h : DataW.Trod enc Tryz.prog W 0 (fun _ => true) true 24 v d p) (hw : Light Tryz.prog 24 d) :
  ∃ N va es, v = .agg #[.int .i64 N, va] ∧ PrV W va es ∧ (Lit.int .i64 N).wf = true ∧ ∀ x ∈ es, (Lit.int .i64 x.1).wf = true ∧ (Lit.int .i64 x.2).wf = true := by
 obtain ⟨v0, v1, y0, y1, n, rfl, rfl, rfl, h0, h1⟩ := open_agg2 Tryz.underlying24 (by kernel_rfl) (by kernel_rfl) hv h
 obtain ⟨_, w1⟩ := light_cons (light_agg Tryz.underlying24 hw)
 obtain ⟨w1, _⟩ := light_cons w1
 obtain ⟨N, hN, _, hNw⟩ := DataW.trod_int Tryz.underlying3 h0
 obtain ⟨es, hes, hew⟩ := I6 h1 w1
 exact ⟨N, v1, es, by rw [(List.cons.inj hN).1], hes, hNw, hew⟩
theorem laidB : laidOutB Tryz.prog = true := by kernel_rfl
theorem staysB {t : TypeId} {v : Value} {d : DataW H} {p : List MemPlace} {W' : World} {L : List Chunk} (hr : Tryz.prog.readableRec t = true) (hrow : t < Tryz.prog.types.size) (h : DataW.Trod enc Tryz.prog W 0 (fun _ => true) true t v d p)
  (hO : Own W [] W' L) (hlt : ∀ x ∈ p, x.block < W.heap.size) : DataW.Trod enc Tryz.prog W' 0 (fun b => decide (b < W.heap.size)) true t v d p :=
 RowKit.Below.trod laidB hr hrow h (own_belowO hO) hlt
end
/-- What the rows list of package-level variables. -/
def laid3 : List (String × DataW Unit) := [("math/bits.deBruijn32tab", laid_math_bits_deBruijn32tab), ("math/bits.deBruijn64tab", laid_math_bits_deBruijn64tab), ("internal/strconv.uint64pow10", laid_internal_strconv_uint64pow10)]
theorem pow_of {W : World} (h : laidMetH Tryz.prog laid3 W) : Pow W := by
 rw [MakeChecks.laidMetH_plain _ _ _ (by kernel_rfl)] at h
 obtain ⟨g, t, cs, fuel, p, hg, ht, hvar, hd⟩ := Lib.laidMet.reads h (n := "internal/strconv.uint64pow10") (d := laid_internal_strconv_uint64pow10) (by simp [laid3])
 obtain rfl := Option.some.inj ((show Tryz.prog.globalNamed "internal/strconv.uint64pow10" = some 1 by kernel_rfl).symm.trans hg)
 obtain rfl := Option.some.inj ((show (Tryz.prog.globals[1]?).map (·.type) = some 265 by kernel_rfl).symm.trans ht)
 unfold Pow Lib.TabIs
 rw [hvar, ← Lib.cells_of_tab (zs := Lib.pow10Tab) Tryz.underlying265 Tryz.underlying221 (by kernel_rfl) (by kernel_rfl) hd]
end Go.Fl

namespace Go.Fl
open Go Go.Proofs Go.ChangeShapes Go.WideShapes Go.Deep Go.Joins
open Go.Proofs.YthjmapekjggdjaaGreatDoor.Rows
section
variable {H : Type} {enc : TypeId × Value → H} {W : World}
theorem I5 {n B : Nat} {v : Value} {y : DataW H × List MemPlace} (h : DataW.trod enc Tryz.prog W 0 (fun _ => true) true n 59 [v] = some y) (hb : uptoBulk y.1 ≤ B) (hB : B ≤ 1048576) :
  ∃ ls, LsV W v ls ∧ ls.length ≤ B ∧ ∀ l, l ∈ ls → l.length ≤ B := by
 rcases open_slice Tryz.underlying59 h with ⟨h1, h2⟩ | ⟨a, len, cap, m, k, D, Pl, h1, h2, h3, h4, h5, h6, h7⟩
 ·cases h1
  exact ⟨[], ⟨none, 0, rfl, fun i l hi => by simp at hi, Nat.le_refl _, by omega, by simp⟩, by simp, by simp⟩
 ·cases h1
  simp only [if_true] at h5
  subst h5 h6
  simp only [maxLen] at h4
  rw [uptoBulk] at hb
  have hl := JM ((List.range len).map D)
  rw [List.length_map, List.length_range] at hl
  have hce : Tryz.prog.cellsOf 44 = 1 := by kernel_rfl
  have hV : ∀ i, i < len → ∃ q : Value × List Int, W.cell? (a.add i) = some q.1 ∧ SlV W q.1 q.2 ∧ q.2.length ≤ B := by
   intro i hi
   obtain ⟨cs', k1, k2⟩ := h7 i (by omega)
   rw [hce, Nat.mul_one] at k1
   obtain ⟨_, hlen, hcell⟩ := World.cells?_some k1
   match cs', hlen with
   | [u], _ =>
    have hD : uptoBulk (D i) ≤ B := by
     have := bulk_mem (ds := (List.range len).map D) (d := D i) (List.mem_map.2 ⟨i, List.mem_range.2 hi, rfl⟩)
     omega
    obtain ⟨xs, hx, hxl⟩ := Km (B := B) k2 hD hB
    have h0 := hcell 0 (by omega)
    refine ⟨(u, xs), ?_, hx, hxl⟩
    have e : (a.add i).add 0 = a.add i := by simp [Addr.add]
    rw [e] at h0
    simpa using h0
  obtain ⟨q, hq⟩ := choose_lt hV
  refine ⟨(List.range len).map fun i => (q i).2, ⟨some a, m, by simp, fun i l hi => ?_, by simp; omega, by omega, by simp; omega⟩, by simp; omega, fun l hl => ?_⟩
  ·have hi2 := (List.getElem?_eq_some_iff.1 hi).1
   simp only [List.length_map, List.length_range] at hi2
   rw [List.getElem?_map, List.getElem?_range hi2] at hi
   simp only [Option.map_some, Option.some.injEq] at hi
   subst hi
   exact ⟨a, (q i).1, rfl, (hq i hi2).1, (hq i hi2).2.1⟩
  ·simp only [List.mem_map, List.mem_range] at hl
   obtain ⟨i, hi, rfl⟩ := hl
   exact (hq i hi).2.2
theorem open_rot {b : Nat} {v : Value} {d : DataW H} {p : List MemPlace} (hv : Value.okWide Tryz.prog W .any b 59 v) (h : DataW.Trod enc Tryz.prog W 0 (fun _ => true) true 59 v d p) (hb : uptoBulk d ≤ 1048576) :
  ∃ ls, LsV W v ls ∧ ls.length ≤ 1048576 ∧ ∀ l, l ∈ ls → l.length ≤ 1048576 := by
 obtain ⟨A, len, cap, rfl⟩ := okWide_slice Tryz.underlying59 hv
 obtain ⟨n, hn⟩ := h
 exact I5 (y := (d, p)) hn hb (Nat.le_refl _)
end
end Go.Fl

namespace Go.Fl
open Go
section
variable {H : Type} {enc : TypeId × Value → H}
theorem returnsInHanded_of_cond_laid {a : Assume} {C : Checked} {os : Os} {f : FuncId} {fn : Func} {s : OpenSpec} {k : (H : Type) → List (DataW H) → Bool} (hk : s.cond = some k) {F : Stop.Interp} {conds : List PathCond} {apart fresh handsOn again : Bool} {X : World → Prop}
  (hX : ∀ w w' : World, w.heap = w'.heap → X w → X w')
  (own : ownKnob C.prog.godebug = none) (started : os.Started) (noInit : C.prog.inits.idxOf? f = none) (hfn : C.prog.funcs[f]? = some fn)
  (witness : ∃ (w : World) (tape : Tape) (i : Input), w.os = os ∧ (w.forCall tape i).Shaped C.prog ∧ i.vars = [] ∧ Input.okWide C.prog (w.forCall tape i) .any w.heap.size f i ∧
   ((s.pre enc C.prog fn conds apart (w.forCall tape i).memory i.args ∧ X (w.forCall tape i).memory) ∧ sizedMet enc C.prog fn s apart (w.forCall tape i).memory i.args) ∧ a.holds C.prog (lone (Frame.enter C.prog f i.args .normal) [] (w.forCall tape i)))
  (contract : ∀ (W : World) (base : Nat) (args : Array Value) (ds gs : List (DataW H)) (before : List MemPlace),
   (∀ (j : Nat) t v, fn.params[j]? = some t → args[j]? = some v → Value.okWide C.prog W .any base t v) →
   DataW.Whole enc C.prog fn.params.toList s.vars apart W args.toList ds gs before →
   k H (ds ++ gs) = true →
   (DataW.weightsEach C.prog (fn.params.toList ++ s.bare.plain.varTypes C.prog) (ds ++ gs)).all (· ≤ reachBytes) = true → X W →
   Calls C.prog f args W fun e W' => ∃ v, e = .returned v ∧ (s.at F).post enc C.prog fn apart fresh handsOn again W args v W') :
  ReturnsInHanded a C os f .any (fun w args => (s.pre enc C.prog fn conds apart w args ∧ X w) ∧ sizedMet enc C.prog fn s apart w args) ((s.at F).post enc C.prog fn apart fresh handsOn again) := by
 refine returnsInHanded_of_calls own started noInit witness ?_
 intro w tape i _ _ _ hok hpre hholds
 obtain ⟨_, _, _, fn', hfn', _, _, _, _, hval⟩ := hok
 have e : fn' = fn := Option.some.inj (hfn'.symm.trans hfn)
 subst e
 obtain ⟨ds, gs, before, hw, hc, hkk⟩ := (OpenSpec.pre_some hk conds apart _ _).1 hpre.1.1
 have hw' := DataW.Whole.of_heap (w' := w.forCall tape i) (by rfl) hw
 refine (contract (w.forCall tape i) w.heap.size i.args ds gs before hval hw' hkk (hpre.2.weights hw) (hX _ _ (by rfl) hpre.1.2)).mono fun e W' ⟨v, he, hp⟩ => ?_
 subst he
 exact ChangeSpec.post_blind hp
theorem witness_laid {C : Checked} {os : Os} {f : FuncId} {fn : Func} {s : OpenSpec} {k : (H : Type) → List (DataW H) → Bool} (hk : s.cond = some k) {conds : List PathCond} {apart : Bool} {X : World → Prop} (modest : Bool) (w0 : World) (args : Array Value) (fuel : Nat) (hos : w0.os = os)
  (hsh : (w0.forCall (fun _ _ => 0) ⟨#[], args, []⟩).Shaped C.prog)
  (hok : Input.okWideB C.prog (w0.forCall (fun _ _ => 0) ⟨#[], args, []⟩) f ⟨#[], args, []⟩ = true)
  {x : List (DataW H) × List (DataW H) × List MemPlace} (hx : DataW.whole enc C.prog (w0.forCall (fun _ _ => 0) ⟨#[], args, []⟩).memory fn.params.toList s.vars apart args.toList fuel = some x)
  (hconds : conds.all (PathCond.test C.prog ⟨fn.params.toList, x.1, s.bare.plain.varTypes C.prog, x.2.1⟩) = true) (hkk : k H (x.1 ++ x.2.1) = true)
  (hsz : s.bare.sizedB enc C.prog fn apart (w0.forCall (fun _ _ => 0) ⟨#[], args, []⟩).memory args fuel = true)
  (hX : X (w0.forCall (fun _ _ => 0) ⟨#[], args, []⟩).memory) :
  ∃ (w : World) (tape : Tape) (i : Input), w.os = os ∧ (w.forCall tape i).Shaped C.prog ∧ i.vars = [] ∧ Input.okWide C.prog (w.forCall tape i) .any w.heap.size f i ∧
   ((s.pre enc C.prog fn conds apart (w.forCall tape i).memory i.args ∧ X (w.forCall tape i).memory) ∧ sizedMet enc C.prog fn s apart (w.forCall tape i).memory i.args) ∧ ({ modest := modest } : Assume).holds C.prog (lone (Frame.enter C.prog f i.args .normal) [] (w.forCall tape i)) :=
 ⟨w0, fun _ _ => 0, ⟨#[], args, []⟩, hos, hsh, (Input.okWide_of_okWideB (base := 0) hok).1, (Input.okWide_of_okWideB hok).2,
  ⟨⟨(OpenSpec.pre_some hk conds apart _ _).2 ⟨x.1, x.2.1, x.2.2, DataW.Whole_of_whole hx, hconds, hkk⟩, hX⟩, sizedMet_of_sizedB hsz⟩, by
  simp only [Assume.holds]
  exact ⟨by simp, by simp, fun _ => Modest.zero, by simp, by simp⟩⟩
end
end Go.Fl

namespace Go.Proofs.YthjmapekjggdjaaGreatDoor.checkFlat
open Go.ChangeShapes Go.WideShapes Go.ChangeAt Go.RowKit
theorem own : ownKnob Tryz.prog.godebug = none := by kernel_rfl
theorem door_met (os : Os) (args : Array Value) : laidMetH Tryz.prog Fl.laid3 ((World.doorLaid Tryz.prog 400 os).forCall (fun _ _ => 0) ⟨#[], args, []⟩).memory :=
  laidMetH_of_parts3 (fuel := 8) (laidMet_of_run' 8 (by kernel_rfl) (by kernel_rfl)) (by kernel_rfl) (by kernel_rfl)
theorem lifted (os : Os) (started : os.Started) (H : Type) (enc : TypeId × Value → H) (F : Stop.Interp) :
    ReturnsInHanded {} Tryz.checked os 8 .any (fun w args => ((Rows.OpenSpec.upto Rows.checkFlatSpec).pre enc Tryz.prog Tryz.f8 [] false w args ∧ laidMetH Tryz.prog Fl.laid3 w) ∧ sizedMet enc Tryz.prog Tryz.f8 (Rows.OpenSpec.upto Rows.checkFlatSpec) false w args)
      (((Rows.OpenSpec.upto Rows.checkFlatSpec).at F).post enc Tryz.prog Tryz.f8 false true false false) := by
  refine Fl.returnsInHanded_of_cond_laid (C := Tryz.checked) (s := Rows.OpenSpec.upto Rows.checkFlatSpec) (k := Rows.uptoSmall) rfl (X := fun w => laidMetH Tryz.prog Fl.laid3 w) (fun _ _ hh h => h.of_heap hh) own started (by kernel_rfl) Tryz.func8
    (Fl.witness_laid (enc := enc) (C := Tryz.checked) (os := os) (s := Rows.OpenSpec.upto Rows.checkFlatSpec) (k := Rows.uptoSmall) rfl (X := fun w => laidMetH Tryz.prog Fl.laid3 w) false (World.doorLaid Tryz.prog 400 os) #[.agg #[.int .i64 0, .slice none 0 0], .slice none 0 0, .int .i64 0] 8 rfl
      (World.shaped_of_RefB (by kernel_rfl) (by kernel_rfl)) (by kernel_rfl) (x := ([.agg [.lit (.int .i64 0), .nil], .nil, .lit (.int .i64 0)], [], [])) (by kernel_rfl) (by kernel_rfl) (by kernel_rfl) (by kernel_rfl) (door_met os _)) ?_
  intro W base args ds gs before hval0 hW hbulk hsz0 hL
  have hsz : (DataW.weightsEach Tryz.prog (Tryz.f8.params.toList ++ (Rows.OpenSpec.upto Rows.checkFlatSpec).bare.plain.varTypes Tryz.prog) (ds ++ gs)).all (· ≤ reachBytes) = true := hsz0
  have hval : ∀ (j : Nat) t v, Tryz.f8.params[j]? = some t → args[j]? = some v → Value.okWide Tryz.prog W .any base t v := hval0
  have hp := Fl.pow_of hL
  have hW' := hW
  obtain ⟨p, q, hA0, hV, rfl, hfz, hnd⟩ := hW
  have hA : DataW.TrodAll enc Tryz.prog W 0 (fun _ => true) true Tryz.f8.params.toList args.toList ds p := hA0
  rw [Tryz.params8] at hA hval hsz
  obtain ⟨v0, v1, v2, d0, d1, d2, p0, p1, p2, rfl, rfl, rfl, t0, t1, t2⟩ := trodAll_three hA
  obtain ⟨rfl, rfl⟩ := trodVars_none hV
  clear hA0 hval0 hsz0
  have hbk : Rows.uptoBulkAll [d0, d1, d2] ≤ 1048576 := by simpa [Rows.uptoSmall] using hbulk
  have lt0 : ∀ x ∈ p0, x.block < W.heap.size := fun x hx => by simpa using hW'.lt x (by simp [hx])
  have lt1 : ∀ x ∈ p1, x.block < W.heap.size := fun x hx => by simpa using hW'.lt x (by simp [hx])
  have lt2 : ∀ x ∈ p2, x.block < W.heap.size := fun x hx => by simpa using hW'.lt x (by simp [hx])
  have hli := Fl.light_all hsz
  obtain ⟨w0, hli⟩ := Fl.light_cons hli
  have b0 : Rows.uptoBulk d0 ≤ 1048576 := Nat.le_trans (Fl.bulk_mem (by simp)) hbk
  obtain ⟨N0, va0, es0, rfl, hg0, hN0, hE0⟩ := Fl.open_graphB (hval 0 _ _ rfl rfl) t0 w0
  obtain ⟨w1, hli⟩ := Fl.light_cons hli
  have b1 : Rows.uptoBulk d1 ≤ 1048576 := Nat.le_trans (Fl.bulk_mem (by simp)) hbk
  obtain ⟨ls1, hv1, hn1, hs1⟩ := Fl.open_rot (hval 1 _ _ rfl rfl) t1 b1
  obtain ⟨w2, hli⟩ := Fl.light_cons hli
  have b2 : Rows.uptoBulk d2 ≤ 1048576 := Nat.le_trans (Fl.bulk_mem (by simp)) hbk
  obtain ⟨e2, rfl, _⟩ := open_int Tryz.underlying3 (hval 2 _ _ rfl rfl) t2
  refine Calls.mono (Fl.LFlat_calls hg0 hv1 hp (by omega) (fun l hl => by have := hs1 l hl; omega)) ?_
  rintro _ W' ⟨v, L, rfl, rfl, hO⟩
  exact ⟨_, rfl, _, _, _, [], _, [], hW', trodAll_mk1 (shut_bool Tryz.underlying4 _), trodAll_mk3 (Fl.staysB (by kernel_rfl) (of_decide_eq_true (by kernel_rfl)) t0 hO lt0) (Fl.staysB (by kernel_rfl) (of_decide_eq_true (by kernel_rfl)) t1 hO lt1) (Fl.staysB (by kernel_rfl) (of_decide_eq_true (by kernel_rfl)) t2 hO lt2), rfl, (Fl.own_belowO hO).frame _, fun h => by cases h⟩
theorem row_holds : Rows.checkFlatUptoRow.holds Tryz.pinned (Rows.OpenSpec.upto Rows.checkFlatSpec) :=
  OpenClaim.holds_of_cond 8 Tryz.f8 rfl rfl rfl rfl rfl rfl rfl ⟨rfl, rfl, rfl, rfl, rfl⟩ rfl rfl rfl rfl rfl (by kernel_rfl) Tryz.func8 (by kernel_rfl)
    (of_decide_eq_true (by kernel_rfl)) (by unfold Func.isWrapper; first | (rw [if_pos (by decide +kernel)]; kernel_rfl) | (rw [if_neg (by decide +kernel)]; exact ⟨rfl, rfl⟩))
    (fun os started H enc _ F => lifted os started H enc F)
theorem over : Claim7.holds Tryz.pinned (.plain (Rows.OpenSpec.upto Rows.checkFlatSpec)) Rows.checkFlatUptoCard :=
  Claim7.holds_tied_plain_at .later [] [.data, .data, .data] true (true, "3987e0c40a2bbd31317015edf0e6dfd52ea27bfe98bff0270e2e7a2b6bdbf781") true
    row_holds (fun _ h => by cases h) (by kernel_rfl) (fun _ h => by cases h) checkFlatUpto_row_tie rfl ⟨rfl, rfl⟩ (by kernel_rfl) rfl
    (fun f fn hf hfn => by
      obtain rfl : f = 8 := Option.some.inj ((show Tryz.prog.funcNamed "tangram/tangramlaw18.CheckFlat" = some 8 by kernel_rfl).symm.trans hf) |>.symm
      obtain rfl : fn = Tryz.f8 := (Option.some.inj (Tryz.func8.symm.trans hfn)).symm
      exact ⟨by kernel_rfl, fun j t ht => by
        rw [Tryz.params8] at ht
        match j, ht with
        | 0, ht => obtain rfl : t = 24 := by simpa using ht.symm
                   exact (show Tryz.prog.wantsStandIn 24 = false by kernel_rfl)
        | 1, ht => obtain rfl : t = 59 := by simpa using ht.symm
                   exact (show Tryz.prog.wantsStandIn 59 = false by kernel_rfl)
        | 2, ht => obtain rfl : t = 3 := by simpa using ht.symm
                   exact (show Tryz.prog.wantsStandIn 3 = false by kernel_rfl)
        | j + 3, ht => simp at ht⟩)
    (by kernel_rfl)
end Go.Proofs.YthjmapekjggdjaaGreatDoor.checkFlat
namespace Go.Proofs.YthjmapekjggdjaaGreatDoor
theorem checkFlat_holds : Rows.CheckFlatUptoCardSaid := checkFlat.over
#print axioms checkFlat_holds
end Go.Proofs.YthjmapekjggdjaaGreatDoor
