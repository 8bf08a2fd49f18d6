/- Part 2 of the proof: the library of the walk and the walks, in build order; no condition. -/
import Derived.Test.YthjmapekjggdjaaGreatDoorZT1
set_option linter.unusedVariables false
set_option linter.unusedSimpArgs false
set_option linter.unusedSectionVars false
set_option maxRecDepth 100000
namespace Go.Fl
open Go Go.Proofs
/-- A scanner: its struct in block gs, its tokens. -/
def scL (gs : Nat) (vb vt : Value) (i : Nat) (tk : List Tk) : List Chunk := [blk gs 176 #[vb, .int .i64 i, vt], slc vt 138 4 (tks tk)]
def sflt (v e : Int) : Value := .iface 172 (.agg #[.int .i64 v, .int .i64 e])
def digAt (bs : List UInt8) (i : Nat) : Bool := (bs[i]?.map isDig).getD false
theorem Di {gs i : Nat} {vb vt : Value} {tk : List Tk} {kd fr nu : Int} {w : World} (hO : Own w (idsOf (scL gs vb vt i tk)) w (scL gs vb vt i tk)) (hl : tk.length ≤ 100000000) :
  Calls Tryz.prog 135 #[.pointer (some ⟨gs, 0, none⟩), .int .i64 kd, .int .i64 fr, .int .i64 nu] w
   (Ret w (idsOf (scL gs vb vt i tk)) fun r M => r = .tuple #[] ∧ ∃ vt', M = scL gs vb vt' i (tk ++ [⟨kd, fr, i, nu⟩])) := by
 refine Ao (args := [_, _, _, _]) Tryz.func135 rfl Tryz.ntmps135 rfl hO ?_
 unfold scL
 refine AC (cl := [.q, .q, .q, .q, .v, .q, .q, .q, .q, .q, .v, .q, .q, .n, .g, .q, .q, .g]) (A := [0, 0, 2, 6, 14, 0, 0, 0, 128, 384, 896, 0, 4064, 8160, 16382, 32767, 65535, 131071]) (order := [0, 1, 2, 3, 4, 5, 6, 7, 8, 9, 10, 11, 12, 13, 14, 15, 16, 17]) [] mixed (by kernel_rfl) (fun w hw => hw.pick .nil) ?_
 iterate 2 refine Ym ?_
 refine Yo rfl (AA rfl rfl) ?_
 refine Yf Ik ?_
 refine Yl LS ?_
 iterate 3 refine Ym ?_
 refine Yo rfl (AA rfl rfl) ?_
 refine Yf Bi ?_
 refine Yl AJ ?_
 refine Ym ?_
 refine Yo rfl (As (cs := #[_, _, _, _]) rfl rfl Q3 rfl rfl) ?_
 refine Be rfl rfl rfl rfl (AM (cs := #[_, _, _, _]) rfl rfl Rx B0 Hb rfl (by decide) (by decide) rfl rfl) fun g21 => ?_
 refine CL (V := [blk g21 138 #[.int .i64 kd, .int .i64 fr, .int .i64 i, .int .i64 nu], blk gs 176 #[vb, .int .i64 i, vt], slc vt 138 4 (tks tk)]) rfl rfl rfl rfl rfl (Gen.shape (AR (F := [blk g21 138 #[.int .i64 kd, .int .i64 fr, .int .i64 i, .int .i64 nu], blk gs _ _]) (vs := tks tk) (k := 1) (news := [.int .i64 kd, .int .i64 fr, .int .i64 i, .int .i64 nu]) rfl rfl rfl Rx B0 Pc Hb rfl (by decide) (by decide)
  (fun w hw => hw.pick (.cons 2 rfl (.cons 0 rfl (.cons 0 rfl .nil)))) (.inl ⟨_, _, rfl, Ai rfl⟩) rfl (by intro u hu; simp at hu; rcases hu with rfl | rfl | rfl | rfl <;> rfl) (by rw [tks_length]; omega))) (fun v L' hC w hw => hw.pick (.nil)) ?_
 rintro _ _ ⟨⟨A11, l11, c11, rfl⟩, rfl⟩
 refine Yo rfl (AA rfl rfl) ?_
 refine Yf Ik ?_
 refine AD rfl rfl rfl rfl (AB (cs' := #[_, _, _]) rfl rfl rfl MT rfl (Ra rfl) rfl) (fun w hw => hw.pick (.nil)) ?_
 refine Flow.end rfl ?_
 simp only [zq, zr]
 refine Fin.weak (E' := []) trivial (.cons 2 rfl (.cons 0 rfl .nil)) ?_
 refine BL (.inr rfl) rfl ?_
 refine ⟨rfl, .slice A11 l11 c11, ?_⟩
 simp [scL, F8, tks]
theorem EB {gs i : Nat} {vb vt : Value} {bs : List UInt8} {w : World} (hg : w.heap[gs]? = some (.cells #[vb, .int .i64 i, vt] 176 (0, 0))) (hB : ByV w vb bs) :
  Calls Tryz.prog 133 #[.pointer (some ⟨gs, 0, none⟩)] w (Ret w [] fun r M => M = [] ∧ r = .bool (digAt bs i)) := by
 obtain ⟨A, cap, rfl, hR, h1, h2⟩ := hB
 refine Ao (args := [_]) (L := []) Tryz.func133 rfl Tryz.ntmps133 rfl (Own.start _ _) ?_
 refine Zs ?_
 refine Za ?_
 refine Zx <| DC.seq ?_
 refine AC (cl := [.q, .q, .q, .v, .q, .q, .q, .v, .q, .q, .q, .q, .q, .q, .v, .q, .q, .q, .v, .q, .v, .q, .q, .q, .q, .q, .q, .v, .q, .q, .q, .v, .q, .v, .q, .q, .q]) (A := [0, 1, 3, 7, 0, 16, 48, 112, 240, 511, 1023, 2047, 4095, 8191, 16383, 2047, 34815, 100351, 231423, 524287, 1048575, 2097151, 4194303, 8388607, 16777215, 33554431, 67108863, 134217727, 16777215, 285212671, 822083583, 1895825407, 4294967295, 8589934591, 17179869183, 34359738367, 68719476735]) (order := [0, 1, 2, 3, 4, 5, 6, 7, 8, 9, 10, 11, 12, 13, 14, 15, 16, 17, 18, 19, 20, 21, 22, 23, 24, 25, 26, 27, 28, 29, 30, 31, 32, 33, 34, 35, 36]) [] mixed (by kernel_rfl) (fun w hw => hw.pick .nil) ?_
 refine Ym ?_
 refine Yo rfl (AA rfl rfl) ?_
 refine Yf Bi ?_
 refine Ar rfl rfl rfl rfl (Ak rfl rfl AJ (AH hg rfl)) ?_
 refine Ym ?_
 refine Yo rfl (AA rfl rfl) ?_
 refine Yf C2 ?_
 refine Ar rfl rfl rfl rfl (Ak rfl rfl Ef (AH hg rfl)) ?_
 refine Yo rfl (CY rfl rfl Rv) ?_
 refine Yo rfl (Gl rfl rfl rfl) ?_
 refine Ym ?_
 refine Flow.split 13 rfl (fun k1_10 => ?_) (fun k1_10 => ?_)
 ·have hil : i < bs.length := by simpa using k1_10
  obtain ⟨c, hc⟩ : ∃ c, bs[i]? = some c := ⟨_, Q8 hil⟩
  obtain ⟨ad, rfl, hcell⟩ := hR.byte hc
  refine Ym ?_
  refine Yo rfl (AA rfl rfl) ?_
  refine Yf C2 ?_
  refine Ar rfl rfl rfl rfl (Ak rfl rfl Ef (AH hg rfl)) ?_
  refine Ym ?_
  refine Yo rfl (AA rfl rfl) ?_
  refine Yf Bi ?_
  refine Ar rfl rfl rfl rfl (Ak rfl rfl AJ (AH hg rfl)) ?_
  refine Yo rfl (Aw (ad' := ad.add i) rfl rfl rfl Rv MS (by omega) (by omega) (by rw [Rb])) ?_
  refine Ar rfl rfl rfl rfl (Ak rfl rfl Og (AY hcell)) ?_
  refine Yo rfl (Ck rfl rfl rfl) ?_
  refine Yo rfl (A7 rfl rfl rfl) ?_
  refine Ym ?_
  refine Flow.split 26 rfl (fun k1_23 => ?_) (fun k1_23 => ?_)
  ·refine Ym ?_
   refine Yo rfl (AA rfl rfl) ?_
   refine Yf C2 ?_
   refine Ar rfl rfl rfl rfl (Ak rfl rfl Ef (AH hg rfl)) ?_
   refine Ym ?_
   refine Yo rfl (AA rfl rfl) ?_
   refine Yf Bi ?_
   refine Ar rfl rfl rfl rfl (Ak rfl rfl AJ (AH hg rfl)) ?_
   refine Yo rfl (Aw (ad' := ad.add i) rfl rfl rfl Rv MS (by omega) (by omega) (by rw [Rb])) ?_
   refine Ar rfl rfl rfl rfl (Ak rfl rfl Og (AY hcell)) ?_
   refine Yo rfl (Lm rfl rfl rfl) ?_
   refine Yo rfl (A7 rfl rfl rfl) ?_
   refine Yo rfl (AF rfl rfl) ?_
   refine Flow.end rfl ?_
   simp only [zq, zr]
   refine Fin.then <| DC.ret ?_
   refine Zh ?_
   refine ⟨rfl, ?_⟩
   first
   | (have h9 : 48 ≤ c.toNat := by (simp at k1_23; omega)
      rw [digAt, hc]; simp [isDig, h9]; omega)
   | (have h9 : ¬ 48 ≤ c.toNat := by (simp at k1_23; omega)
      rw [digAt, hc]; simp [isDig, h9])
   | (rw [digAt, Rq hil]; rfl)
  iterate 11 refine Yk ?_
  refine Yo rfl (Bc rfl rfl rfl) ?_
  refine Yo rfl (AF rfl rfl) ?_
  refine Flow.end rfl ?_
  simp only [zq, zr]
  refine Fin.then <| DC.ret ?_
  refine Zh ?_
  refine ⟨rfl, ?_⟩
  first
  | (have h9 : 48 ≤ c.toNat := by (simp at k1_23; omega)
     rw [digAt, hc]; simp [isDig, h9]; omega)
  | (have h9 : ¬ 48 ≤ c.toNat := by (simp at k1_23; omega)
     rw [digAt, hc]; simp [isDig, h9])
  | (rw [digAt, Rq hil]; rfl)
 have hil : bs.length ≤ i := by simpa using k1_10
 iterate 11 refine Yk ?_
 refine Yo rfl (Bc rfl rfl rfl) ?_
 refine Ym ?_
 iterate 11 refine Yk ?_
 refine Yo rfl (Bc rfl rfl rfl) ?_
 refine Yo rfl (AF rfl rfl) ?_
 refine Flow.end rfl ?_
 simp only [zq, zr]
 refine Fin.then <| DC.ret ?_
 refine Zh ?_
 refine ⟨rfl, ?_⟩
 first
 | (have h9 : 48 ≤ c.toNat := by (simp at k1_23; omega)
    rw [digAt, hc]; simp [isDig, h9]; omega)
 | (have h9 : ¬ 48 ≤ c.toNat := by (simp at k1_23; omega)
    rw [digAt, hc]; simp [isDig, h9])
 | (rw [digAt, Rq hil]; rfl)
theorem Iq {c : UInt8} (h : isDig c = true) : 48 ≤ c.toNat ∧ c.toNat ≤ 57 := by simpa [isDig] using h
theorem KI : ∀ (k : Nat) (l : List UInt8), l.length = k → (∀ c, c ∈ l → isDig c = true) → 0 ≤ decF l ∧ decF l < 10 ^ k := by
 intro k
 induction k with
 | zero => intro l h _; rw [Ro h]; simp [decF]
 | succ k ih =>
  intro l h hd
  have hne : l ≠ [] := by rintro rfl; simp at h
  obtain ⟨x, hx⟩ : ∃ x, x = l.getLast hne := ⟨_, rfl⟩
  have e : l = l.dropLast ++ [x] := by rw [hx]; exact (List.dropLast_concat_getLast hne).symm
  have h1 := ih l.dropLast (by simp; omega) (fun c hc => hd c (List.dropLast_subset _ hc))
  have h2 := Iq (hd x (by rw [hx]; exact List.getLast_mem hne))
  rw [e, Fo]
  have : (10 : Int) ^ (k + 1) = 10 * 10 ^ k := by rw [Int.pow_succ, Int.mul_comm]
  omega
theorem Ct {bs : List UInt8} {i : Nat} (h : digAt bs i = true) : ∃ c, bs[i]? = some c ∧ isDig c = true := by
 unfold digAt at h
 cases hc : bs[i]? with
 | none => rw [hc] at h; cases h
 | some c => rw [hc] at h; exact ⟨c, rfl, h⟩
def numAt (bs : List UInt8) (i j : Nat) : Int := decF ((bs.drop i).take (min (j - i) 9))
theorem Fd {bs : List UInt8} {i j : Nat} (hd : ∀ p, i ≤ p → p < j → digAt bs p = true) (hij : i ≤ j) (hj : j ≤ bs.length) : 0 ≤ numAt bs i j ∧ numAt bs i j < 1000000000 := by
 have hl : ((bs.drop i).take (min (j - i) 9)).length = min (j - i) 9 := by simp; omega
 have := KI _ _ hl (fun c hc => by
  obtain ⟨p, hp, rfl⟩ := List.mem_iff_getElem.1 hc
  rw [hl] at hp
  obtain ⟨c', h1, h2⟩ := Ct (hd (i + p) (by omega) (by omega))
  simp only [List.getElem_take, List.getElem_drop]
  rw [Q8 (by omega)] at h1
  cases h1; exact h2)
 have h9 : (10 : Int) ^ (min (j - i) 9) ≤ 10 ^ 9 := by
  have : min (j - i) 9 ≤ 9 := Nat.min_le_right _ _
  exact_mod_cast Nat.pow_le_pow_right (by omega) this
 have : (10 : Int) ^ 9 = 1000000000 := by decide
 unfold numAt
 omega
theorem Gs {bs : List UInt8} {i j : Nat} {c : UInt8} (hij : i ≤ j) (hc : bs[j]? = some c) : numAt bs i (j + 1) = if j - i < 9 then 10 * numAt bs i j + ((c.toNat : Int) - 48) else numAt bs i j := by
 unfold numAt
 have hj := (Q9.1 hc).1
 split
 ·rename_i h
  rw [show min (j + 1 - i) 9 = (j - i) + 1 by omega, show min (j - i) 9 = j - i by omega, List.take_add_one, ← Fo]
  congr 1; congr 1
  rw [List.getElem?_drop, show i + (j - i) = j by omega, hc]; rfl
 rename_i h
 rw [show min (j + 1 - i) 9 = 9 by omega, show min (j - i) 9 = 9 by omega]
theorem Kb {gs i : Nat} {vb vt : Value} {tk : List Tk} {bs : List UInt8} {w : World} (hO : Own w (idsOf (scL gs vb vt i tk)) w (scL gs vb vt i tk)) (hB : ByV w vb bs) (ho : ByO vb bs (idsOf (scL gs vb vt i tk))) (hl : tk.length ≤ 100000000) (hb : bs.length ≤ 33554432)
  (h0 : digAt bs i = true) :
  Calls Tryz.prog 134 #[.pointer (some ⟨gs, 0, none⟩)] w
   (RetP w (idsOf (scL gs vb vt i tk)) (fun r M => r = .tuple #[] ∧ ∃ vt' j tk', M = scL gs vb vt' j tk' ∧ (i < j ∧ j ≤ bs.length) ∧ tk'.length = tk.length + 1 ∧ scanF i (bs.drop i) tk = scanF j (bs.drop j) tk')
    (fun pv M => ∃ a e, pv = sflt a e ∧ scanF i (bs.drop i) tk = .bad a e)) := by
 obtain ⟨A, cap, hvb, hR, hb1, hb2⟩ := id hB
 have hil : i < bs.length := by obtain ⟨c, hc, _⟩ := Ct h0; exact (Q9.1 hc).1
 obtain ⟨c0, hc0, hd0⟩ := Ct h0
 obtain ⟨ad0, hA, _⟩ := hR.byte hc0
 subst hA
 subst hvb
 refine CK (args := [_]) Tryz.func134 rfl Tryz.ntmps134 rfl hO ?_
 unfold scL at ho ⊢
 refine Zs ?_
 refine Zm ?_
 refine Zo (AA rfl rfl) ?_
 refine Zf Bi ?_
 refine Zl AJ ?_
 iterate 2 refine Za ?_
 refine Zx <| DC.seq <| DC.block ?_
 refine DC.loop (ι := Nat) (fun j => i ≤ j ∧ j ≤ bs.length ∧ ∀ p, i ≤ p → p < j → digAt bs p = true)
  (fun j => [(0, .pointer (some ⟨gs, 0, none⟩)), (2, .int .i64 i), (3, .int .i64 (numAt bs i j))]) (fun j => [blk gs 176 #[.slice (some ad0) bs.length cap, .int .i64 (j : Nat), vt], slc vt 138 4 (tks tk)]) (fun j => bs.length - j) i ⟨Nat.le_refl _, by omega, fun p h1 h2 => by omega⟩ ⟨rfl, rfl, by simp [numAt, decF, Bg], trivial⟩ (.cons 0 rfl (.cons 0 rfl .nil)) ?_
 rintro j ⟨hij, hjl, hdj⟩
 refine DC.seq <| Zs ?_
 refine Zm ?_
 refine Seq.rel0 rfl rfl (Am O6 rfl rfl rfl (fun w hw => EB (i := j) (vt := vt) (hw.holds _ (Ri ..)) (hB.keep ho hw))) ?_
 rintro _ rfl
 refine Zx ?_
 refine Zd (fun c1 => ?_) fun c1 => ?_
 ·obtain ⟨c, hcj, hdc⟩ := Ct (bs := bs) (i := j) (by simpa using c1)
  have hcn := Iq hdc
  have hjl' : j < bs.length := (Q9.1 hcj).1
  have hnb := Fd hdj hij hjl
  refine DC.skip <| Fin.then <| DC.block <| DC.seq <| Zs ?_
  refine Zm ?_
  refine Zo (AA rfl rfl) ?_
  refine Zf Bi ?_
  refine Zl AJ ?_
  refine Zm ?_
  refine Zo (Ce rfl rfl rfl (by omega)) ?_
  refine Zc ?_
  refine Zx ?_
  refine Zd (fun c2 => ?_) fun c2 => ?_
  ·refine AC (cl := [.q, .q, .q, .q, .q, .v, .q, .q, .q, .v, .q, .v, .q, .q, .q, .q]) (A := [0, 1, 0, 4, 12, 28, 0, 64, 192, 448, 1020, 2044, 4092, 8188, 16383, 32767]) (order := [0, 1, 2, 3, 4, 5, 6, 7, 8, 9, 10, 11, 12, 13, 14, 15]) [] mixed (by kernel_rfl) (fun w hw => hw.pick .nil) ?_
   refine Ym ?_
   refine Yo rfl (Ch rfl rfl rfl (by omega)) ?_
   refine Ym ?_
   refine Yo rfl (AA rfl rfl) ?_
   refine Yf C2 ?_
   refine Yl Ef ?_
   refine Ym ?_
   refine Yo rfl (AA rfl rfl) ?_
   refine Yf Bi ?_
   refine Yl AJ ?_
   refine Yo rfl (Aw (ad' := ad0.add j) rfl rfl rfl Rv MS (by omega) (by omega) (by rw [Rb])) ?_
   refine Ar rfl rfl rfl rfl (Ak rfl rfl Og (hB.has ho hcj)) ?_
   refine Yo rfl (Na rfl rfl rfl (by omega)) ?_
   refine Yo rfl (Gm rfl rfl Tryz.underlying5 Tryz.underlying3 (by omega) (by omega)) ?_
   refine Yo rfl (CB rfl rfl rfl (by omega)) ?_
   refine Yo rfl (AF rfl rfl) ?_
   refine Flow.end rfl ?_
   simp only [zq, zr]
   refine Fin.then <| DC.region ?_
   refine Zm ?_
   refine Zo (AA rfl rfl) ?_
   refine Zf Bi ?_
   refine Zl AJ ?_
   refine Zp ?_
   refine Zo (AA rfl rfl) ?_
   refine Zf Bi ?_
   refine Zy (AB (cs' := #[_, _, _]) rfl rfl rfl AN rfl (Ra rfl) rfl) ?_
   refine Seq.nil <| Fin.inBlock ?_
   have hst := Gs hij hcj
   refine Fin.again (j + 1) (by omega) ⟨by omega, by omega, fun p h1 h2 => ?_⟩ ⟨rfl, rfl, ?_, trivial⟩ (.cons' 0 rfl (by simp) (.cons 0 rfl .nil))
   ·by_cases hp : p = j
    ·subst hp; simpa using c1
    exact hdj p h1 (by omega)
   rw [hst]
   simp at c2
   first
   | (rw [if_pos (by omega)]; rfl)
   | (rw [if_neg (by omega)]; rfl)
  refine DC.skip <| Fin.then <| DC.region ?_
  refine Zm ?_
  refine Zo (AA rfl rfl) ?_
  refine Zf Bi ?_
  refine Zl AJ ?_
  refine Zp ?_
  refine Zo (AA rfl rfl) ?_
  refine Zf Bi ?_
  refine Zy (AB (cs' := #[_, _, _]) rfl rfl rfl AN rfl (Ra rfl) rfl) ?_
  refine Seq.nil <| Fin.inBlock ?_
  have hst := Gs hij hcj
  refine Fin.again (j + 1) (by omega) ⟨by omega, by omega, fun p h1 h2 => ?_⟩ ⟨rfl, rfl, ?_, trivial⟩ (.cons' 0 rfl (by simp) (.cons 0 rfl .nil))
  ·by_cases hp : p = j
   ·subst hp; simpa using c1
   exact hdj p h1 (by omega)
  rw [hst]
  simp at c2
  first
  | (rw [if_pos (by omega)]; rfl)
  | (rw [if_neg (by omega)]; rfl)
 refine DC.exit <| Ad <| Ad <| Ag <| Fin.then <| DC.seq <| DC.seq ?_
 have hkd : digs (bs.drop i) = j - i := by
  rw [GM (j - i) i (fun p h1 h2 => Ct (hdj p h1 (by omega))), show i + (j - i) = j by omega, JG (fun c hc => by simpa [digAt, hc] using c1), Nat.add_zero]
 have hji : i < j := by
  rcases Nat.lt_or_eq_of_le hij with h | h
  ·exact h
  subst h; rw [h0] at c1; simp at c1
 refine DC.region ?_
 refine Zm ?_
 refine Zo (AA rfl rfl) ?_
 refine Zf Bi ?_
 refine Zl AJ ?_
 refine Zm ?_
 refine Zo (Ce rfl rfl rfl (by omega)) ?_
 refine Za ?_
 refine Zx <| Zs ?_
 refine Zm ?_
 refine Zo (Bx rfl rfl rfl) ?_
 refine Zm ?_
 refine Seq.split 48 rfl (fun k6_2 => ?_) (fun k6_2 => ?_)
 ·refine Zk ?_
  iterate 11 refine Zk ?_
  refine Zt ?_
  refine Zx ?_
  refine AG rfl ?_
  refine DC.region ?_
  refine Zm ?_
  refine Zo (As (cs := #[_, _]) rfl rfl LP rfl rfl) ?_
  refine Zo (Ep (v := sflt i 12) rfl rfl (fun w => by kernel_rfl)) ?_
  refine Seq.panic rfl rfl rfl ?_
  refine Aj <| ?_
  refine AZ ⟨i, 12, rfl, EC hc0 hd0 hkd ?_⟩
  first
  | (simp at k6_2; omega)
  | (simp at k6_5 c6; omega)
 refine Zm ?_
 refine Zo (Bx rfl rfl rfl) ?_
 refine Zm ?_
 refine Seq.split 51 rfl (fun k6_5 => ?_) (fun k6_5 => ?_)
 ·refine Zm ?_
  refine Zo (AA rfl rfl) ?_
  refine Zf C2 ?_
  refine Zl Ef ?_
  refine Zm ?_
  refine Zo (Aw (ad' := ad0.add i) rfl rfl rfl Rv MS (by omega) (by omega) (by rw [Rb])) ?_
  refine Zu (Ak rfl rfl Og (hB.has ho hc0)) ?_
  refine Zo (AW rfl rfl rfl) ?_
  refine Zt ?_
  refine Zg ?_
  refine Zx ?_
  refine Zd (fun c6 => ?_) fun c6 => ?_
  ·refine DC.region ?_
   refine Zm ?_
   refine Zo (As (cs := #[_, _]) rfl rfl LP rfl rfl) ?_
   refine Zo (Ep (v := sflt i 12) rfl rfl (fun w => by kernel_rfl)) ?_
   refine Seq.panic rfl rfl rfl ?_
   refine Aj <| ?_
   refine AZ ⟨i, 12, rfl, EC hc0 hd0 hkd ?_⟩
   first
   | (simp at k6_2; omega)
   | (simp at k6_5 c6; omega)
  refine DC.skip <| Fin.then <| DC.region ?_
  iterate 3 refine Zm ?_
  refine Seq.gen rfl rfl (AQ LL rfl rfl rfl (Lc := scL gs (.slice (some ad0) bs.length cap) vt j tk) (F := []) (.refl _) (fun k hk => hk) (fun w hw => Di hw.self hl)) ?_
  rintro _ _ ⟨_, ⟨rfl, vt', rfl⟩, rfl⟩
  refine Seq.nil ?_
  refine CX (.inr rfl) (BL (.inr rfl) rfl ?_)
  have hk9 : ¬(9 < j - i ∨ (1 < j - i ∧ c0.toNat = 48)) := by
   first
   | (simp at k6_2 k6_5 c6; omega)
   | (simp at k6_2 k6_5; omega)
  refine ⟨rfl, vt', j, _, List.append_nil _, ⟨hji, hjl⟩, by simp, ?_⟩
  have := E7 (acc := tk) hc0 hd0 hkd (by omega) (by omega)
  rw [this, show i + (j - i) = j by omega]
  unfold numAt
  rw [show min (j - i) 9 = j - i by omega]
 iterate 8 refine Zk ?_
 iterate 2 refine Zg ?_
 refine Zx ?_
 refine Ba rfl ?_
 refine DC.skip <| Fin.then <| DC.region ?_
 iterate 3 refine Zm ?_
 refine Seq.gen rfl rfl (AQ LL rfl rfl rfl (Lc := scL gs (.slice (some ad0) bs.length cap) vt j tk) (F := []) (.refl _) (fun k hk => hk) (fun w hw => Di hw.self hl)) ?_
 rintro _ _ ⟨_, ⟨rfl, vt', rfl⟩, rfl⟩
 refine Seq.nil ?_
 refine CX (.inr rfl) (BL (.inr rfl) rfl ?_)
 have hk9 : ¬(9 < j - i ∨ (1 < j - i ∧ c0.toNat = 48)) := by
  first
  | (simp at k6_2 k6_5 c6; omega)
  | (simp at k6_2 k6_5; omega)
 refine ⟨rfl, vt', j, _, List.append_nil _, ⟨hji, hjl⟩, by simp, ?_⟩
 have := E7 (acc := tk) hc0 hd0 hkd (by omega) (by omega)
 rw [this, show i + (j - i) = j by omega]
 unfold numAt
 rw [show min (j - i) 9 = j - i by omega]
/-- A number of a certificate's text: what it is, the place behind it. -/
def numP (bs : List UInt8) (i : Nat) : Option (Int × Nat) :=
 if digs (bs.drop i) = 0 ∨ 9 < digs (bs.drop i) ∨ (1 < digs (bs.drop i) ∧ bs[i]? = some 48) then none else some (numAt bs i (i + digs (bs.drop i)), i + digs (bs.drop i))
def rdC (g : Nat) (vb : Value) (i : Nat) (bad : Int) : Chunk := blk g 91 #[vb, .int .i64 i, .int .i64 bad]
theorem F7 {x c : UInt8} : ((x.toNat : Int) = c.toNat) ↔ x = c := by
 constructor
 ·intro h
  exact UInt8.toNat_inj.1 (by omega)
 intro h; rw [h]
theorem C9 {g i : Nat} {vb : Value} {bad : Int} {bs : List UInt8} {c : UInt8} {w : World} (hg : w.heap[g]? = some (.cells #[vb, .int .i64 i, .int .i64 bad] 91 (0, 0))) (hB : ByV w vb bs) :
  Calls Tryz.prog 76 #[.pointer (some ⟨g, 0, none⟩), .int .u8 c.toNat] w (Ret w [] fun r M => M = [] ∧ ∃ b, r = .bool b ∧ (b = true ↔ bs[i]? = some c)) := by
 obtain ⟨A, cap, rfl, hR, h1, h2⟩ := hB
 refine Ao (args := [_, _]) (L := []) Tryz.func76 rfl Tryz.ntmps76 rfl (Own.start _ _) ?_
 refine Zs ?_
 refine Za ?_
 refine Zx <| DC.seq ?_
 refine AC (cl := [.q, .q, .q, .v, .q, .q, .q, .v, .q, .q, .q, .q, .q, .q, .v, .q, .q, .q, .v, .q, .v, .q, .q, .q, .q]) (A := [0, 1, 3, 7, 0, 16, 48, 112, 240, 511, 1023, 2047, 4095, 8191, 16383, 2047, 34815, 100351, 231423, 524287, 1048575, 2047, 4194303, 8388607, 16777215]) (order := [0, 1, 2, 3, 4, 5, 6, 7, 8, 9, 10, 11, 12, 13, 14, 15, 16, 17, 18, 19, 20, 21, 22, 23, 24]) [] mixed (by kernel_rfl) (fun w hw => hw.pick .nil) ?_
 refine Ym ?_
 refine Yo rfl (AA rfl rfl) ?_
 refine Yf BB ?_
 refine Ar rfl rfl rfl rfl (Ak rfl rfl AJ (AH hg rfl)) ?_
 refine Ym ?_
 refine Yo rfl (AA rfl rfl) ?_
 refine Yf DY ?_
 refine Ar rfl rfl rfl rfl (Ak rfl rfl Ef (AH hg rfl)) ?_
 refine Yo rfl (CY rfl rfl Rv) ?_
 refine Yo rfl (Gl rfl rfl rfl) ?_
 refine Ym ?_
 refine Flow.split 15 rfl (fun k1_10 => ?_) (fun k1_10 => ?_)
 ·have hil : i < bs.length := by simpa using k1_10
  obtain ⟨x, hx⟩ : ∃ c, bs[i]? = some c := ⟨_, Q8 hil⟩
  obtain ⟨ad, rfl, hcell⟩ := hR.byte hx
  refine Ym ?_
  refine Yo rfl (AA rfl rfl) ?_
  refine Yf DY ?_
  refine Ar rfl rfl rfl rfl (Ak rfl rfl Ef (AH hg rfl)) ?_
  refine Ym ?_
  refine Yo rfl (AA rfl rfl) ?_
  refine Yf BB ?_
  refine Ar rfl rfl rfl rfl (Ak rfl rfl AJ (AH hg rfl)) ?_
  refine Yo rfl (Aw (ad' := ad.add i) rfl rfl rfl Rv MS (by omega) (by omega) (by rw [Rb])) ?_
  refine Ar rfl rfl rfl rfl (Ak rfl rfl Og (AY hcell)) ?_
  refine Ym ?_
  refine Yo rfl (AW rfl rfl rfl) ?_
  refine Yo rfl (A7 rfl rfl rfl) ?_
  refine Yo rfl (AF rfl rfl) ?_
  refine Flow.end rfl ?_
  simp only [zq, zr]
  refine Fin.then <| DC.ret ?_
  refine Zh ?_
  refine ⟨rfl, _, rfl, ?_⟩
  first
  | (rw [hx, decide_eq_true_iff, F7, Option.some.injEq])
  | (rw [Rq hil]; simp)
 have hil : bs.length ≤ i := by simpa using k1_10
 iterate 12 refine Yk ?_
 refine Yo rfl (Bc rfl rfl rfl) ?_
 refine Yo rfl (AF rfl rfl) ?_
 refine Flow.end rfl ?_
 simp only [zq, zr]
 refine Fin.then <| DC.ret ?_
 refine Zh ?_
 refine ⟨rfl, _, rfl, ?_⟩
 first
 | (rw [hx, decide_eq_true_iff, F7, Option.some.injEq])
 | (rw [Rq hil]; simp)
theorem BC {g i : Nat} {vb : Value} {bad k : Int} {w : World} (hO : Own w (idsOf [rdC g vb i bad]) w [rdC g vb i bad]) :
  Calls Tryz.prog 77 #[.pointer (some ⟨g, 0, none⟩), .int .i64 k] w (Ret w (idsOf [rdC g vb i bad]) fun r M => r = .bool false ∧ ∃ bad', M = [rdC g vb i bad']) := by
 refine Ao (args := [_, _]) Tryz.func77 rfl Tryz.ntmps77 rfl hO ?_
 unfold rdC
 refine Zs ?_
 refine Za ?_
 refine Zx <| DC.seq <| Zs ?_
 refine Zm ?_
 refine Zo (AA rfl rfl) ?_
 refine Zf KE ?_
 refine Zl AJ ?_
 refine Zc ?_
 refine Zx ?_
 refine Zd (fun c1 => ?_) fun c1 => ?_
 ·refine DC.region ?_
  iterate 2 refine Zm ?_
  refine Zo (AA rfl rfl) ?_
  refine Zf KE ?_
  refine Zy (AB (cs' := #[_, _, _]) rfl rfl rfl AN rfl (Ra rfl) rfl) ?_
  refine Zx <| Zs ?_
  refine Za ?_
  refine Zx <| DC.ret ?_
  refine Zh ?_
  exact ⟨rfl, _, rfl⟩
 refine DC.skip <| Fin.then <| Zs ?_
 refine Za ?_
 refine Zx <| DC.ret ?_
 refine Zh ?_
 exact ⟨rfl, _, rfl⟩
theorem CN {g i : Nat} {vb : Value} {bad : Int} {bs : List UInt8} {c : UInt8} {w : World} (hO : Own w (idsOf [rdC g vb i bad]) w [rdC g vb i bad]) (hB : ByV w vb bs) (ho : ByO vb bs (idsOf [rdC g vb i bad])) (hb : bs.length ≤ 33554432) :
  Calls Tryz.prog 78 #[.pointer (some ⟨g, 0, none⟩), .int .u8 c.toNat] w (Ret w (idsOf [rdC g vb i bad]) fun r M => ∃ b i' bad', r = .bool b ∧ M = [rdC g vb i' bad'] ∧ (b = true → bs[i]? = some c ∧ i' = i + 1 ∧ i' ≤ bs.length ∧ bad' = bad) ∧ (b = false → bs[i]? ≠ some c ∧ i' = i)) := by
 refine Ao (args := [_, _]) Tryz.func78 rfl Tryz.ntmps78 rfl hO ?_
 unfold rdC at ho ⊢
 refine Zs ?_
 refine Za ?_
 refine Zx <| DC.seq <| Zs ?_
 iterate 2 refine Zm ?_
 refine Seq.rel0 rfl rfl (Am NK rfl rfl rfl (fun w hw => C9 (i := i) (bad := bad) (hw.holds _ (Ri ..)) (hB.keep ho hw))) ?_
 rintro _ ⟨b7, rfl, hb7⟩
 refine Zo (Bb rfl rfl) ?_
 refine Zx ?_
 refine Zd (fun c1 => ?_) fun c1 => ?_
 ·refine Zs ?_
  iterate 2 refine Zm ?_
  refine Zo (AA rfl rfl) ?_
  refine Zf BB ?_
  refine Zl AJ ?_
  refine Seq.gen rfl rfl (AQ G8 rfl rfl rfl (Lc := [rdC g vb i bad]) (F := []) (.refl _) (fun k hk => hk) (fun w hw => BC hw.self)) ?_
  rintro _ _ ⟨_, ⟨rfl, bad', rfl⟩, rfl⟩
  refine Za ?_
  refine Zx <| DC.ret <| Aa ?_
  refine Zh ?_
  exact ⟨false, i, bad', rfl, rfl, by simp, fun _ => ⟨fun h => by rw [hb7.2 h] at c1; simp at c1, rfl⟩⟩
 have hbi : bs[i]? = some c := hb7.1 (by simpa using c1)
 have hil := (Q9.1 hbi).1
 refine DC.skip <| Fin.then <| Zs ?_
 refine Zm ?_
 refine Zo (AA rfl rfl) ?_
 refine Zf BB ?_
 refine Zl AJ ?_
 refine Zp ?_
 refine Zo (AA rfl rfl) ?_
 refine Zf BB ?_
 refine Zy (AB (cs' := #[_, _, _]) rfl rfl rfl AN rfl (Ra rfl) rfl) ?_
 refine Zx <| Zs ?_
 refine Za ?_
 refine Zx <| DC.ret ?_
 refine Zh ?_
 exact ⟨true, i + 1, bad, rfl, rfl, fun _ => ⟨hbi, rfl, hil, rfl⟩, by simp⟩
theorem CE {g i : Nat} {vb : Value} {bad : Int} {bs : List UInt8} {w : World} (hO : Own w (idsOf [rdC g vb i bad]) w [rdC g vb i bad]) (hB : ByV w vb bs) (ho : ByO vb bs (idsOf [rdC g vb i bad])) (hb : bs.length ≤ 33554432) (hil : i ≤ bs.length) :
  Calls Tryz.prog 79 #[.pointer (some ⟨g, 0, none⟩)] w (Ret w (idsOf [rdC g vb i bad]) fun r M => ∃ n fine j bad', r = .tuple #[.int .i64 n, .int .i64 i, .bool fine] ∧ M = [rdC g vb j bad'] ∧ (i ≤ j ∧ j ≤ bs.length) ∧ (fine = true → numP bs i = some (n, j) ∧ i < j ∧ bad' = bad ∧ 0 ≤ n ∧ n < 1000000000) ∧ (fine = false → numP bs i = none)) := by
 obtain ⟨A, cap, hvb, hR, hb1, hb2⟩ := id hB
 subst hvb
 refine Ao (args := [_]) Tryz.func79 rfl Tryz.ntmps79 rfl hO ?_
 unfold rdC at ho ⊢
 refine Zs ?_
 iterate 3 refine Za ?_
 refine Zx <| Zs ?_
 refine Zm ?_
 refine Zo (AA rfl rfl) ?_
 refine Zf BB ?_
 refine Zl AJ ?_
 refine Za ?_
 refine Zx ?_
 refine DC.cut (ι := Nat) (fun j => (i ≤ j ∧ j ≤ bs.length) ∧ (∀ p, i ≤ p → p < j → digAt bs p = true) ∧ ∀ c, bs[j]? = some c → isDig c = false) (fun j => [(0, .pointer (some ⟨g, 0, none⟩)), (2, .int .i64 (numAt bs i j)), (3, .int .i64 i)]) (fun j => [blk g 91 #[.slice A bs.length cap, .int .i64 (j : Nat), .int .i64 bad]]) ?firstb0 ?restb0
 case firstb0 =>
  refine DC.block ?_
  refine DC.loop (ι := Nat) (fun j => (i ≤ j ∧ j ≤ bs.length) ∧ ∀ p, i ≤ p → p < j → digAt bs p = true) (fun j => [(0, .pointer (some ⟨g, 0, none⟩)), (2, .int .i64 (numAt bs i j)), (3, .int .i64 i)]) (fun j => [blk g 91 #[.slice A bs.length cap, .int .i64 (j : Nat), .int .i64 bad]]) (fun j => bs.length - j) i ⟨⟨Nat.le_refl _, hil⟩, fun p h1 h2 => by omega⟩ ⟨rfl, by simp [numAt, decF]; rfl, rfl, trivial⟩ (.cons 0 rfl .nil) ?_
  rintro j ⟨⟨hij, hjl⟩, hdj⟩
  refine DC.seq <| DC.seq ?_
  refine AC (cl := [.q, .q, .q, .v, .q, .q, .q, .v, .q, .q, .q, .q, .q, .q, .v, .q, .q, .q, .v, .q, .v, .q, .q, .q, .q, .q, .q, .v, .q, .q, .q, .v, .q, .v, .q, .q]) (A := [0, 1, 3, 7, 0, 16, 48, 112, 240, 511, 1023, 2047, 4095, 8191, 16383, 2047, 34815, 100351, 231423, 524287, 1048575, 2097151, 4194303, 8388607, 16777215, 33554431, 67108863, 134217727, 16777215, 285212671, 822083583, 1895825407, 4294967295, 8589934591, 17179869183, 34359738367]) (order := [0, 1, 2, 3, 4, 5, 6, 7, 8, 9, 10, 11, 12, 13, 14, 15, 16, 17, 18, 19, 20, 21, 22, 23, 24, 25, 26, 27, 28, 29, 30, 31, 32, 33, 34, 35]) [] mixed (by kernel_rfl) (fun w hw => hw.pick .nil) ?_
  refine Ym ?_
  refine Yo rfl (AA rfl rfl) ?_
  refine Yf BB ?_
  refine Yl AJ ?_
  refine Ym ?_
  refine Yo rfl (AA rfl rfl) ?_
  refine Yf DY ?_
  refine Yl Ef ?_
  refine Yo rfl (CY rfl rfl Rv) ?_
  refine Yo rfl (Gl rfl rfl rfl) ?_
  refine Ym ?_
  refine Flow.split 20 rfl (fun k2_10 => ?_) (fun k2_10 => ?_)
  ·have hjl' : j < bs.length := by simpa using k2_10
   obtain ⟨x, hx⟩ : ∃ c, bs[j]? = some c := ⟨_, Q8 hjl'⟩
   obtain ⟨ad, rfl, hcell⟩ := hR.byte hx
   refine Ym ?_
   refine Yo rfl (AA rfl rfl) ?_
   refine Yf DY ?_
   refine Yl Ef ?_
   refine Ym ?_
   refine Yo rfl (AA rfl rfl) ?_
   refine Yf BB ?_
   refine Yl AJ ?_
   refine Yo rfl (Aw (ad' := ad.add j) rfl rfl rfl Rv MS (by omega) (by omega) (by rw [Rb])) ?_
   refine Ar rfl rfl rfl rfl (Ak rfl rfl Og (hB.has ho hx)) ?_
   refine Yo rfl (Ck rfl rfl rfl) ?_
   refine Yo rfl (A7 rfl rfl rfl) ?_
   refine Ym ?_
   refine Flow.split 33 rfl (fun k2_23 => ?_) (fun k2_23 => ?_)
   ·refine Ym ?_
    refine Yo rfl (AA rfl rfl) ?_
    refine Yf DY ?_
    refine Yl Ef ?_
    refine Ym ?_
    refine Yo rfl (AA rfl rfl) ?_
    refine Yf BB ?_
    refine Yl AJ ?_
    refine Yo rfl (Aw (ad' := ad.add j) rfl rfl rfl Rv MS (by omega) (by omega) (by rw [Rb])) ?_
    refine Ar rfl rfl rfl rfl (Ak rfl rfl Og (hB.has ho hx)) ?_
    refine Yo rfl (Lm rfl rfl rfl) ?_
    refine Yo rfl (A7 rfl rfl rfl) ?_
    refine Flow.end rfl ?_
    simp only [zq, zr]
    refine Fin.then ?_
    refine Zd (fun c2 => ?_) fun c2 => ?_
    ·have hd : isDig x = true := by simp at k2_23 c2; simp [isDig]; omega
     have hcn := Iq hd
     have hnb := Fd hdj hij hjl
     have hst := Gs hij hx
     refine DC.skip <| Fin.then <| DC.block <| DC.seq <| Zs ?_
     refine Zm ?_
     refine Zo (AA rfl rfl) ?_
     refine Zf BB ?_
     refine Zl AJ ?_
     refine Zm ?_
     refine Zo (Ce rfl rfl rfl (by omega)) ?_
     refine Zc ?_
     refine Zx ?_
     refine Zd (fun c3 => ?_) fun c3 => ?_
     ·refine AC (cl := [.q, .q, .q, .q, .q, .v, .q, .q, .q, .v, .q, .v, .q, .q, .q, .q]) (A := [0, 1, 0, 4, 12, 28, 0, 64, 192, 448, 1020, 2044, 4092, 8188, 16383, 32767]) (order := [0, 1, 2, 3, 4, 5, 6, 7, 8, 9, 10, 11, 12, 13, 14, 15]) [] mixed (by kernel_rfl) (fun w hw => hw.pick .nil) ?_
      refine Ym ?_
      refine Yo rfl (Ch rfl rfl rfl (by omega)) ?_
      refine Ym ?_
      refine Yo rfl (AA rfl rfl) ?_
      refine Yf DY ?_
      refine Yl Ef ?_
      refine Ym ?_
      refine Yo rfl (AA rfl rfl) ?_
      refine Yf BB ?_
      refine Yl AJ ?_
      refine Yo rfl (Aw (ad' := ad.add j) rfl rfl rfl Rv MS (by omega) (by omega) (by rw [Rb])) ?_
      refine Ar rfl rfl rfl rfl (Ak rfl rfl Og (hB.has ho hx)) ?_
      refine Yo rfl (Na rfl rfl rfl (by omega)) ?_
      refine Yo rfl (Gm rfl rfl Tryz.underlying5 Tryz.underlying3 (by omega) (by omega)) ?_
      refine Yo rfl (CB rfl rfl rfl (by omega)) ?_
      refine Yo rfl (AF rfl rfl) ?_
      refine Flow.end rfl ?_
      simp only [zq, zr]
      refine Fin.then <| DC.region ?_
      refine Zm ?_
      refine Zo (AA rfl rfl) ?_
      refine Zf BB ?_
      refine Zl AJ ?_
      refine Zp ?_
      refine Zo (AA rfl rfl) ?_
      refine Zf BB ?_
      refine Zy (AB (cs' := #[_, _, _]) rfl rfl rfl AN rfl (Ra rfl) rfl) ?_
      refine Seq.nil <| Fin.inBlock ?_
      refine Fin.again (j + 1) (by omega) ⟨by omega, fun p h1 h2 => ?_⟩ ⟨rfl, ?_, rfl, trivial⟩ (.cons' 0 rfl (by simp) .nil)
      ·by_cases hp : p = j
       ·subst hp; simp [digAt, hx, hd]
       exact hdj p h1 (by omega)
      rw [hst]
      simp at c3
      first
      | (rw [if_pos (by omega)]; rfl)
      | (rw [if_neg (by omega)]; rfl)
     refine DC.skip <| Fin.then <| DC.region ?_
     refine Zm ?_
     refine Zo (AA rfl rfl) ?_
     refine Zf BB ?_
     refine Zl AJ ?_
     refine Zp ?_
     refine Zo (AA rfl rfl) ?_
     refine Zf BB ?_
     refine Zy (AB (cs' := #[_, _, _]) rfl rfl rfl AN rfl (Ra rfl) rfl) ?_
     refine Seq.nil <| Fin.inBlock ?_
     refine Fin.again (j + 1) (by omega) ⟨by omega, fun p h1 h2 => ?_⟩ ⟨rfl, ?_, rfl, trivial⟩ (.cons' 0 rfl (by simp) .nil)
     ·by_cases hp : p = j
      ·subst hp; simp [digAt, hx, hd]
      exact hdj p h1 (by omega)
     rw [hst]
     simp at c3
     first
     | (rw [if_pos (by omega)]; rfl)
     | (rw [if_neg (by omega)]; rfl)
    refine DC.exit <| Ad <| Ad <| Ag ?_
    refine AO j ⟨⟨hij, hjl⟩, hdj, fun c hc => ?_⟩ ⟨rfl, rfl, rfl, trivial⟩ (.cons 0 rfl .nil)
    first
    | (rw [Rq hjl'] at hc; cases hc)
    | (rw [hx] at hc; cases hc
       simp at k2_23
       simp [isDig]; omega)
    | (rw [hx] at hc; cases hc
       simp at k2_23 c2
       simp [isDig]; omega)
   iterate 11 refine Yk ?_
   refine Yo rfl (Bc rfl rfl rfl) ?_
   refine Flow.end rfl ?_
   simp only [zq, zr]
   refine Fin.then ?_
   refine Ba rfl ?_
   refine DC.exit <| Ad <| Ad <| Ag ?_
   refine AO j ⟨⟨hij, hjl⟩, hdj, fun c hc => ?_⟩ ⟨rfl, rfl, rfl, trivial⟩ (.cons 0 rfl .nil)
   first
   | (rw [Rq hjl'] at hc; cases hc)
   | (rw [hx] at hc; cases hc
      simp at k2_23
      simp [isDig]; omega)
   | (rw [hx] at hc; cases hc
      simp at k2_23 c2
      simp [isDig]; omega)
  have hjl' : bs.length ≤ j := by simpa using k2_10
  iterate 11 refine Yk ?_
  refine Yo rfl (Bc rfl rfl rfl) ?_
  refine Ym ?_
  iterate 11 refine Yk ?_
  refine Yo rfl (Bc rfl rfl rfl) ?_
  refine Flow.end rfl ?_
  simp only [zq, zr]
  refine Fin.then ?_
  refine Ba rfl ?_
  refine DC.exit <| Ad <| Ad <| Ag ?_
  refine AO j ⟨⟨hij, hjl⟩, hdj, fun c hc => ?_⟩ ⟨rfl, rfl, rfl, trivial⟩ (.cons 0 rfl .nil)
  first
  | (rw [Rq hjl'] at hc; cases hc)
  | (rw [hx] at hc; cases hc
     simp at k2_23
     simp [isDig]; omega)
  | (rw [hx] at hc; cases hc
     simp at k2_23 c2
     simp [isDig]; omega)
 rintro j ⟨⟨hij, hjl⟩, hdj, hend⟩
 have hkd : digs (bs.drop i) = j - i := by
  rw [GM (j - i) i (fun p h1 h2 => Ct (hdj p h1 (by omega))), show i + (j - i) = j by omega, JG hend, Nat.add_zero]
 have hnb := Fd hdj hij hjl
 refine Zs ?_
 refine Zm ?_
 refine Zo (AA rfl rfl) ?_
 refine Zf BB ?_
 refine Zl AJ ?_
 refine Zm ?_
 refine Zo (Ce rfl rfl rfl (by omega)) ?_
 refine Za ?_
 refine Zx <| DC.seq <| Zs ?_
 refine Zm ?_
 refine Zo (AW rfl rfl rfl) ?_
 refine Zm ?_
 refine Seq.split 83 rfl (fun k7_2 => ?_) (fun k7_2 => ?_)
 ·refine Zk ?_
  refine Zk ?_
  refine Zt ?_
  refine Zm ?_
  iterate 12 refine Zk ?_
  refine Zt ?_
  refine Zx ?_
  refine AG rfl ?_
  refine Zs ?_
  iterate 3 refine Zm ?_
  refine Seq.gen rfl rfl (AQ G8 rfl rfl rfl (Lc := [rdC g _ j bad]) (F := []) (.refl _) (fun k hk => hk) (fun w hw => BC hw.self)) ?_
  rintro _ _ ⟨_, ⟨rfl, bad', rfl⟩, rfl⟩
  iterate 3 refine Za ?_
  refine Zx <| DC.ret <| Aa ?_
  refine Bk (.inl rfl) rfl rfl rfl rfl ?_
  first
  | (refine ⟨0, false, j, bad', rfl, rfl, ⟨hij, hjl⟩, by simp, fun _ => ?_⟩
     unfold numP
     rw [if_pos]
     rw [hkd]
     first
     | (left; simp at k7_2; omega)
     | (right; left; simp at k7_6; omega)
     | (right; right; refine ⟨hk1, ?_⟩; rw [hx]; simp at c7; rw [show x = 48 from F7.1 (by simpa using c7)]))
  | (refine ⟨numAt bs i j, true, j, bad, rfl, rfl, ⟨hij, hjl⟩, fun _ => ⟨?_, ?_, rfl, hnb.1, hnb.2⟩, by simp⟩
     ·unfold numP
      rw [if_neg, hkd, show i + (j - i) = j by omega]
      rw [hkd]
      rintro (h | h | ⟨h1, h2⟩)
      ·simp at k7_2; omega
      ·simp at k7_6; omega
      ·first
       | (simp at k7_9; omega)
       | (rw [hx] at h2; cases h2; simp at c7)
     ·simp at k7_2; omega)
 refine Zm ?_
 refine Zo (Bx rfl rfl rfl) ?_
 refine Zg ?_
 refine Zm ?_
 refine Seq.split 87 rfl (fun k7_6 => ?_) (fun k7_6 => ?_)
 ·refine Zk ?_
  iterate 11 refine Zk ?_
  refine Zt ?_
  refine Zx ?_
  refine AG rfl ?_
  refine Zs ?_
  iterate 3 refine Zm ?_
  refine Seq.gen rfl rfl (AQ G8 rfl rfl rfl (Lc := [rdC g _ j bad]) (F := []) (.refl _) (fun k hk => hk) (fun w hw => BC hw.self)) ?_
  rintro _ _ ⟨_, ⟨rfl, bad', rfl⟩, rfl⟩
  iterate 3 refine Za ?_
  refine Zx <| DC.ret <| Aa ?_
  refine Bk (.inl rfl) rfl rfl rfl rfl ?_
  first
  | (refine ⟨0, false, j, bad', rfl, rfl, ⟨hij, hjl⟩, by simp, fun _ => ?_⟩
     unfold numP
     rw [if_pos]
     rw [hkd]
     first
     | (left; simp at k7_2; omega)
     | (right; left; simp at k7_6; omega)
     | (right; right; refine ⟨hk1, ?_⟩; rw [hx]; simp at c7; rw [show x = 48 from F7.1 (by simpa using c7)]))
  | (refine ⟨numAt bs i j, true, j, bad, rfl, rfl, ⟨hij, hjl⟩, fun _ => ⟨?_, ?_, rfl, hnb.1, hnb.2⟩, by simp⟩
     ·unfold numP
      rw [if_neg, hkd, show i + (j - i) = j by omega]
      rw [hkd]
      rintro (h | h | ⟨h1, h2⟩)
      ·simp at k7_2; omega
      ·simp at k7_6; omega
      ·first
       | (simp at k7_9; omega)
       | (rw [hx] at h2; cases h2; simp at c7)
     ·simp at k7_2; omega)
 refine Zm ?_
 refine Zo (Bx rfl rfl rfl) ?_
 refine Zm ?_
 refine Seq.split 90 rfl (fun k7_9 => ?_) (fun k7_9 => ?_)
 ·have hk1 : 1 < j - i := by simp at k7_9; omega
  obtain ⟨x, hx⟩ : ∃ c, bs[i]? = some c := ⟨_, Q8 (by omega)⟩
  obtain ⟨ad, rfl, hcell⟩ := hR.byte hx
  refine Zm ?_
  refine Zo (AA rfl rfl) ?_
  refine Zf DY ?_
  refine Zl Ef ?_
  refine Zm ?_
  refine Zo (Aw (ad' := ad.add i) rfl rfl rfl Rv MS (by omega) (by omega) (by rw [Rb])) ?_
  refine Zu (Ak rfl rfl Og (hB.has ho hx)) ?_
  refine Zo (AW rfl rfl rfl) ?_
  refine Zt ?_
  refine Zg ?_
  refine Zx ?_
  refine Zd (fun c7 => ?_) fun c7 => ?_
  ·refine Zs ?_
   iterate 3 refine Zm ?_
   refine Seq.gen rfl rfl (AQ G8 rfl rfl rfl (Lc := [rdC g _ j bad]) (F := []) (.refl _) (fun k hk => hk) (fun w hw => BC hw.self)) ?_
   rintro _ _ ⟨_, ⟨rfl, bad', rfl⟩, rfl⟩
   iterate 3 refine Za ?_
   refine Zx <| DC.ret <| Aa ?_
   refine Bk (.inl rfl) rfl rfl rfl rfl ?_
   first
   | (refine ⟨0, false, j, bad', rfl, rfl, ⟨hij, hjl⟩, by simp, fun _ => ?_⟩
      unfold numP
      rw [if_pos]
      rw [hkd]
      first
      | (left; simp at k7_2; omega)
      | (right; left; simp at k7_6; omega)
      | (right; right; refine ⟨hk1, ?_⟩; rw [hx]; simp at c7; rw [show x = 48 from F7.1 (by simpa using c7)]))
   | (refine ⟨numAt bs i j, true, j, bad, rfl, rfl, ⟨hij, hjl⟩, fun _ => ⟨?_, ?_, rfl, hnb.1, hnb.2⟩, by simp⟩
      ·unfold numP
       rw [if_neg, hkd, show i + (j - i) = j by omega]
       rw [hkd]
       rintro (h | h | ⟨h1, h2⟩)
       ·simp at k7_2; omega
       ·simp at k7_6; omega
       ·first
        | (simp at k7_9; omega)
        | (rw [hx] at h2; cases h2; simp at c7)
      ·simp at k7_2; omega)
  refine DC.skip <| Fin.then <| Zs ?_
  iterate 2 refine Zm ?_
  iterate 3 refine Za ?_
  refine Zx <| DC.ret ?_
  refine Bk (.inl rfl) rfl rfl rfl rfl ?_
  first
  | (refine ⟨0, false, j, bad', rfl, rfl, ⟨hij, hjl⟩, by simp, fun _ => ?_⟩
     unfold numP
     rw [if_pos]
     rw [hkd]
     first
     | (left; simp at k7_2; omega)
     | (right; left; simp at k7_6; omega)
     | (right; right; refine ⟨hk1, ?_⟩; rw [hx]; simp at c7; rw [show x = 48 from F7.1 (by simpa using c7)]))
  | (refine ⟨numAt bs i j, true, j, bad, rfl, rfl, ⟨hij, hjl⟩, fun _ => ⟨?_, ?_, rfl, hnb.1, hnb.2⟩, by simp⟩
     ·unfold numP
      rw [if_neg, hkd, show i + (j - i) = j by omega]
      rw [hkd]
      rintro (h | h | ⟨h1, h2⟩)
      ·simp at k7_2; omega
      ·simp at k7_6; omega
      ·first
       | (simp at k7_9; omega)
       | (rw [hx] at h2; cases h2; simp at c7)
     ·simp at k7_2; omega)
 iterate 8 refine Zk ?_
 iterate 2 refine Zg ?_
 refine Zx ?_
 refine Ba rfl ?_
 refine DC.skip <| Fin.then <| Zs ?_
 iterate 2 refine Zm ?_
 iterate 3 refine Za ?_
 refine Zx <| DC.ret ?_
 refine Bk (.inl rfl) rfl rfl rfl rfl ?_
 first
 | (refine ⟨0, false, j, bad', rfl, rfl, ⟨hij, hjl⟩, by simp, fun _ => ?_⟩
    unfold numP
    rw [if_pos]
    rw [hkd]
    first
    | (left; simp at k7_2; omega)
    | (right; left; simp at k7_6; omega)
    | (right; right; refine ⟨hk1, ?_⟩; rw [hx]; simp at c7; rw [show x = 48 from F7.1 (by simpa using c7)]))
 | (refine ⟨numAt bs i j, true, j, bad, rfl, rfl, ⟨hij, hjl⟩, fun _ => ⟨?_, ?_, rfl, hnb.1, hnb.2⟩, by simp⟩
    ·unfold numP
     rw [if_neg, hkd, show i + (j - i) = j by omega]
     rw [hkd]
     rintro (h | h | ⟨h1, h2⟩)
     ·simp at k7_2; omega
     ·simp at k7_6; omega
     ·first
      | (simp at k7_9; omega)
      | (rw [hx] at h2; cases h2; simp at c7)
    ·simp at k7_2; omega)
def listGo (bs : List UInt8) : Nat → Nat → List Int → Option (List Int × Nat)
 | 0, _, _ => none
 | f + 1, i, acc => match numP bs i with
  | none => none
  | some (n, j) => if 0 < acc.length ∧ n < acc.headD 0 then none else if bs[j]? = some 32 then listGo bs f (j + 1) (acc ++ [n]) else if bs[j]? = some 10 then some (acc ++ [n], j + 1) else none
/-- A line of numbers of a certificate's text, and the place behind it. -/
def listP (bs : List UInt8) (i : Nat) : Option (List Int × Nat) := if bs[i]? = some 10 then some ([], i + 1) else listGo bs (bs.length + 1) i []
theorem Jx {P : Program} {w0 : World} {K : List Nat} {n : Nat} {ds : List Deferred} {E : Env} {L F : List Chunk} {o : Oper} {t m : Nat} {vs : List Value} (h : Gen P w0 K n ds E L o (fun v' M => M = slc v' t m vs :: F)) : Gen P w0 K n ds E L o (fun v' M => (∃ A l c, v' = .slice A l c ∧ vs.length = l * m) ∧ M = slc v' t m vs :: F) := by
 intro a w ha hw
 refine (h a w ha hw).mono ?_
 rintro v w' ⟨L', rfl, hO⟩
 obtain ⟨A, len, cap, e, h1, _⟩ := CO hO
 exact ⟨_, ⟨⟨A, len, cap, e, h1⟩, rfl⟩, hO⟩
structure LsI where
 i : Nat
 f : Nat
 v : Value
 acc : List Int
theorem JP {g i : Nat} {vb : Value} {bad : Int} {bs : List UInt8} {w : World} (hO : Own w (idsOf [rdC g vb i bad]) w [rdC g vb i bad]) (hB : ByV w vb bs) (ho : ByO vb bs (idsOf [rdC g vb i bad])) (hb : bs.length ≤ 33554432) (hil : i ≤ bs.length) :
  Calls Tryz.prog 80 #[.pointer (some ⟨g, 0, none⟩)] w (Ret w (idsOf [rdC g vb i bad]) fun r M => ∃ v ok xs j bad', r = .tuple #[v, .bool ok] ∧ M = [rdC g vb j bad', slc v 3 1 (ints xs)] ∧ (i ≤ j ∧ j ≤ bs.length ∧ xs.length ≤ bs.length) ∧ (ok = true → listP bs i = some (xs, j)) ∧ (ok = false → listP bs i = none)) := by
 have hoid : ∀ (j : Nat) (b : Int), idsOf [rdC g vb j b] = idsOf [rdC g vb i bad] := fun _ _ => rfl
 refine Ao (args := [_]) Tryz.func80 rfl Tryz.ntmps80 rfl hO ?_
 unfold rdC at ho ⊢
 refine Zs ?_
 iterate 2 refine Za ?_
 refine Zx <| DC.seq <| Zs ?_
 refine Zm ?_
 refine Seq.rel0 rfl rfl (Am NK rfl rfl rfl (fun w hw => C9 (i := i) (bad := bad) (c := 10) (hw.holds _ (Ri ..)) (hB.keep ho hw))) ?_
 rintro _ ⟨b9, rfl, hb9⟩
 refine Zx ?_
 refine Zd (fun c1 => ?_) fun c1 => ?_
 ·have hbi : bs[i]? = some 10 := hb9.1 (by simpa using c1)
  have hilt := (Q9.1 hbi).1
  refine Zs ?_
  refine Zm ?_
  refine Zo (AA rfl rfl) ?_
  refine Zf BB ?_
  refine Zl AJ ?_
  refine Zp ?_
  refine Zo (AA rfl rfl) ?_
  refine Zf BB ?_
  refine Zy (AB (cs' := #[_, _, _]) rfl rfl rfl AN rfl (Ra rfl) rfl) ?_
  refine Zx <| Zs ?_
  iterate 2 refine Za ?_
  refine Zx <| DC.ret <| Aa ?_
  refine Fin.own (M := [blk g 91 #[vb, .int .i64 (i + 1 : Nat), .int .i64 bad], slc (.slice none 0 0) 3 1 (ints [])]) (fun w hw => (AU (t := 3) (m := 1) hw).perm (List.Perm.swap _ _ _)) ?_
  refine AI (.inl rfl) rfl rfl rfl ?_
  exact ⟨.slice none 0 0, true, [], i + 1, bad, rfl, rfl, ⟨by omega, hilt, by simp⟩, fun _ => by simp [listP, hbi], by simp⟩
 have hbi : ¬ bs[i]? = some 10 := fun h => by rw [hb9.2 h] at c1; simp at c1
 have hlP : listP bs i = listGo bs (bs.length + 1) i [] := by rw [listP, if_neg hbi]
 refine DC.skip <| Fin.then <| Zs ?_
 refine Za ?_
 refine Zx <| DC.block ?_
 refine DC.own (fun w hw => AU (t := 3) (m := 1) hw) ?_
 refine DC.loop (ι := LsI) (fun q => (i ≤ q.i ∧ q.i ≤ bs.length) ∧ q.acc.length ≤ q.i ∧ bs.length + 1 ≤ q.f + q.i ∧ listP bs i = listGo bs q.f q.i q.acc) (fun q => [(0, .pointer (some ⟨g, 0, none⟩)), (4, q.v)])
  (fun q => [blk g 91 #[vb, .int .i64 q.i, .int .i64 bad], slc q.v 3 1 (ints q.acc)]) (fun q => bs.length - q.i) ⟨i, bs.length + 1, .slice none 0 0, []⟩ ⟨⟨Nat.le_refl _, hil⟩, Nat.zero_le _, by dsimp only; omega, hlP⟩ ⟨rfl, rfl, trivial⟩ (.cons 1 rfl (.cons 0 rfl .nil)) ?_
 rintro ⟨a, f, v4, acc⟩ ⟨⟨hia, hal⟩, haa, hf, hgo⟩
 dsimp only at hia hal haa hf hgo ⊢
 obtain ⟨f, rfl⟩ : ∃ f', f = f' + 1 := ⟨f - 1, by omega⟩
 refine DC.slcs (i := 1) (v := v4) rfl (by omega) ?_
 rintro A4 c4 rfl hA4
 refine DC.block <| Zs ?_
 refine Zm ?_
 refine Seq.gen rfl rfl (AQ OQ rfl rfl rfl (Lc := [rdC g vb a bad]) (F := [slc (.slice A4 acc.length c4) 3 1 (ints acc)]) (.refl _) (fun k hk => hk) (fun w hw => CE (hw.sub (L' := [rdC g vb a bad]) (.cons_cons _ (Rh _))).self (hB.keep ho hw) (ByO.step (L := [rdC g vb a bad]) hB ho (hw.sub (.cons_cons _ (Rh _)))) hb hal)) ?_
 rintro _ _ ⟨_, ⟨n, fine, j, bad', rfl, rfl, ⟨haj, hjl⟩, hyes, hno⟩, rfl⟩
 refine Zm ?_
 iterate 3 refine Ze ?_
 iterate 3 refine Za ?_
 refine Zx <| DC.seq <| DC.seq ?_
 simp only [zs]
 unfold rdC
 have hgo1 : numP bs a = none → listP bs i = none := fun h => by rw [hgo, listGo, h]
 refine DC.region ?_
 refine Zm ?_
 refine Zo (Bb rfl rfl) ?_
 refine Zx ?_
 refine Zd (fun c6 => ?_) fun c6 => ?_
 ·refine Zs ?_
  iterate 2 refine Za ?_
  refine Zx <| DC.ret <| Aa <| Ae <| Aa <| Ae ?_
  refine Fin.own (M := [blk g 91 #[vb, .int .i64 (j : Nat), .int .i64 bad'], slc (.slice none 0 0) 3 1 (ints [])]) (fun w hw => (AU (t := 3) (m := 1) (hw.sub (L' := [blk g 91 #[vb, .int .i64 (j : Nat), .int .i64 bad']]) (.cons_cons _ (Rh _)))).perm (List.Perm.swap _ _ _)) ?_
  refine AI (.inl rfl) rfl rfl rfl ?_
  exact ⟨.slice none 0 0, false, [], j, bad', rfl, rfl, ⟨by omega, hjl, by simp⟩, by simp, fun _ => hgo1 (hno (by simpa using c6))⟩
 obtain ⟨hnum, haj', rfl, hn0, hn1⟩ := hyes (by simpa using c6)
 rw [listGo, hnum] at hgo
 dsimp only at hgo
 refine DC.skip <| Fin.then ?_
 refine DC.cut (ι := Option Addr) (fun A => ¬ (0 < acc.length ∧ n < acc.headD 0)) (fun A => [(0, .pointer (some ⟨g, 0, none⟩)), (4, .slice A acc.length c4), (5, .int .i64 n)])
  (fun A => [blk g 91 #[vb, .int .i64 (j : Nat), .int .i64 bad'], slc (.slice A acc.length c4) 3 1 (ints acc)]) ?first9 ?rest9
 case first9 =>
  refine Zs ?_
  refine Zm ?_
  refine Zn Rt ?_
  refine Zo (Bx rfl rfl rfl) ?_
  refine Zm ?_
  refine Seq.split 28 rfl (fun k8_3 => ?_) (fun k8_3 => ?_)
  ·have hacc : 0 < acc.length := by simp at k8_3; omega
   obtain ⟨x0, hx0⟩ : ∃ x, acc[0]? = some x := ⟨_, Q8 hacc⟩
   obtain ⟨ad4, rfl⟩ := hA4 (List.ne_nil_of_length_pos hacc)
   have hhd : acc.headD 0 = x0 := by
    cases acc with
    | nil => cases hx0
    | cons a r => simpa using hx0
   iterate 2 refine Zm ?_
   refine Zo (Aw (ad' := ad4.add 0) rfl rfl rfl Rt AN (by omega) (by omega) rfl) ?_
   refine Zu (Ak rfl rfl AJ (BJ (i := 1) rfl hx0 (by omega))) ?_
   refine Zc ?_
   refine Zt ?_
   refine Zx ?_
   refine Zd (fun c8 => ?_) fun c8 => ?_
   ·have hbad : 0 < acc.length ∧ n < acc.headD 0 := ⟨hacc, by rw [hhd]; simp at c8; omega⟩
    rw [if_pos hbad] at hgo
    refine Zs ?_
    iterate 2 refine Zm ?_
    refine Seq.gen rfl rfl (AQ G8 rfl rfl rfl (Lc := [rdC g vb j bad']) (F := [slc (.slice (some ad4) acc.length c4) 3 1 (ints acc)]) (.refl _) (fun k hk => hk) (fun w hw => BC (hw.sub (L' := [rdC g vb j bad']) (.cons_cons _ (Rh _))).self)) ?_
    rintro _ _ ⟨_, ⟨rfl, bad2, rfl⟩, rfl⟩
    iterate 2 refine Za ?_
    refine Zx <| DC.ret <| Aa <| Ae <| Aa <| Ae ?_
    refine Fin.own (M := [blk g 91 #[vb, .int .i64 (j : Nat), .int .i64 bad2], slc (.slice none 0 0) 3 1 (ints [])]) (fun w hw => (AU (t := 3) (m := 1) (hw.sub (L' := [blk g 91 #[vb, .int .i64 (j : Nat), .int .i64 bad2]]) (.cons_cons _ (Rh _)))).perm (List.Perm.swap _ _ _)) ?_
    refine AI (.inl rfl) rfl rfl rfl ?_
    exact ⟨.slice none 0 0, false, [], j, bad2, rfl, rfl, ⟨by omega, hjl, by simp⟩, by simp, fun _ => hgo⟩
   refine DC.skip ?_
   refine AO _ ?_ ⟨rfl, rfl, rfl, trivial⟩ (.cons 0 rfl (.cons 0 rfl .nil))
   first
   | (rintro ⟨h1, h2⟩; rw [hhd] at h2; simp at c8; omega)
   | (rintro ⟨h1, h2⟩; have := of_decide_eq_false k8_3; omega)
  iterate 5 refine Zk ?_
  refine Zg ?_
  refine Zx ?_
  refine Ba rfl ?_
  refine DC.skip ?_
  refine AO _ ?_ ⟨rfl, rfl, rfl, trivial⟩ (.cons 0 rfl (.cons 0 rfl .nil))
  first
  | (rintro ⟨h1, h2⟩; rw [hhd] at h2; simp at c8; omega)
  | (rintro ⟨h1, h2⟩; have := of_decide_eq_false k8_3; omega)
 intro A5 hgood
 rw [if_neg hgood] at hgo
 refine Zs ?_
 iterate 2 refine Zm ?_
 refine Zw (AM (cs := #[_]) rfl rfl Rt AN Cg rfl (by decide) (by decide) rfl rfl) fun g40 => ?_
 refine Seq.gen rfl rfl (Jx (AR (F := [blk g40 3 #[.int .i64 n], blk g 91 #[vb, .int .i64 (j : Nat), .int .i64 bad']]) (vs := ints acc) (k := 1) (news := [.int .i64 n]) rfl rfl rfl Rt AN E5 Cg rfl (by decide) (by decide)
  (fun w hw => hw.pick (.cons 2 rfl (.cons 0 rfl (.cons 0 rfl .nil)))) (.inl ⟨_, _, rfl, Ai rfl⟩) rfl (BE [_] []) (by rw [ints_length]; omega))) ?_
 rintro _ _ ⟨⟨A41, l41, c41, rfl, hl41⟩, rfl⟩
 obtain rfl : l41 = acc.length + 1 := by simp at hl41; omega
 refine Za ?_
 refine Seq.nil ?_
 refine Fin.weak (E' := [(0, .pointer (some ⟨g, 0, none⟩)), (4, .slice A41 (acc.length + 1) c41)]) ⟨rfl, rfl, trivial⟩ (L' := [blk g 91 #[vb, .int .i64 (j : Nat), .int .i64 bad'], slc (.slice A41 (acc.length + 1) c41) 3 1 (ints (acc ++ [n]))]) (.cons 2 rfl (.cons' 0 rfl (by rw [Bj]; rfl) .nil)) ?_
 refine Fin.then <| DC.seq <| Zs ?_
 refine Zm ?_
 refine Seq.rel0 rfl rfl (Am NK rfl rfl rfl (fun w hw => C9 (i := j) (bad := bad') (c := 32) (hw.holds _ (Ri ..)) (hB.keep ho hw))) ?_
 rintro _ ⟨b43, rfl, hb43⟩
 refine Zx ?_
 refine Zd (fun c11 => ?_) fun c11 => ?_
 ·have hbj : bs[j]? = some 32 := hb43.1 (by simpa using c11)
  have hjlt := (Q9.1 hbj).1
  rw [if_pos hbj] at hgo
  refine Zs ?_
  refine Zm ?_
  refine Zo (AA rfl rfl) ?_
  refine Zf BB ?_
  refine Zl AJ ?_
  refine Zp ?_
  refine Zo (AA rfl rfl) ?_
  refine Zf BB ?_
  refine Zy (AB (cs' := #[_, _, _]) rfl rfl rfl AN rfl (Ra rfl) rfl) ?_
  refine Zx <| DC.exit <| Ad <| Ag ?_
  exact Fin.again ⟨j + 1, f, .slice A41 (acc.length + 1) c41, acc ++ [n]⟩ (by dsimp only; omega) ⟨⟨by dsimp only; omega, by dsimp only; omega⟩, by simp; omega, by dsimp only; omega, hgo⟩ ⟨rfl, rfl, trivial⟩ (.cons 0 rfl (.cons 0 rfl .nil))
 have hbj : ¬ bs[j]? = some 32 := fun h => by rw [hb43.2 h] at c11; simp at c11
 rw [if_neg hbj] at hgo
 refine DC.skip <| Fin.then <| Zs ?_
 iterate 2 refine Zm ?_
 refine Seq.gen rfl rfl (AQ NJ rfl rfl rfl (Lc := [rdC g vb j bad']) (F := [slc (.slice A41 (acc.length + 1) c41) 3 1 (ints (acc ++ [n]))]) (.refl _) (fun k hk => hk) (fun w hw => CN (c := 10) (hw.sub (L' := [rdC g vb j bad']) (.cons_cons _ (Rh _))).self (hB.keep ho hw) (ByO.step (L := [rdC g vb j bad']) hB ho (hw.sub (.cons_cons _ (Rh _)))) hb)) ?_
 rintro _ _ ⟨_, ⟨b53, j', bad3, rfl, rfl, hw1, hw2⟩, rfl⟩
 iterate 2 refine Za ?_
 refine Zx <| DC.ret <| Ae <| Aa <| Ae ?_
 refine AI (.inl rfl) rfl rfl rfl ?_
 refine ⟨_, b53, acc ++ [n], j', bad3, rfl, rfl, ?_, fun h => ?_, fun h => ?_⟩
 ·cases b53 with
  | true => obtain ⟨_, h2, h3, _⟩ := hw1 rfl; exact ⟨by omega, h3, by simp; omega⟩
  | false => obtain ⟨_, h2⟩ := hw2 rfl; exact ⟨by omega, by omega, by simp; omega⟩
 ·obtain ⟨h1, h2, _⟩ := hw1 h
  rw [hgo, if_pos h1, h2]
 rw [hgo, if_neg (hw2 h).1]
theorem Ev (a : Int) (w : World) : Calls Tryz.prog 85 #[.int .i64 a] w (Ret w [] fun v L => L = [] ∧ ∃ b, v = .bool b ∧ (b = true ↔ Fits a)) := by
 refine Ao (args := [_]) (L := []) Tryz.func85 rfl Tryz.ntmps85 rfl (Own.start _ _) ?_
 refine Zs ?_
 refine Za ?_
 refine Zx <| Zs ?_
 refine Zm ?_
 refine Zo (Ck rfl rfl rfl) ?_
 refine Zm ?_
 refine Seq.split 5 rfl (fun k1_2 => ?_) (fun k1_2 => ?_)
 ·refine Zm ?_
  refine Zo (Lm rfl rfl rfl) ?_
  refine Zt ?_
  refine Za ?_
  refine Zx <| DC.ret ?_
  refine Zh ?_
  refine ⟨rfl, _, rfl, ?_⟩
  unfold Fits
  simp_all
  try omega
 iterate 2 refine Zk ?_
 refine Zg ?_
 refine Za ?_
 refine Zx <| DC.ret ?_
 refine Zh ?_
 refine ⟨rfl, _, rfl, ?_⟩
 unfold Fits
 simp_all
 try omega
theorem FC (a b c d : Int) (w : World) : Calls Tryz.prog 86 #[.agg #[.int .i64 a, .int .i64 b], .agg #[.int .i64 c, .int .i64 d]] w (Ret w [] fun v L => L = [] ∧ ∃ r, v = .bool r ∧ (r = true ↔ Lex (a, b) (c, d))) := by
 refine Ao (args := [_, _]) (L := []) Tryz.func86 rfl Tryz.ntmps86 rfl (Own.start _ _) ?_
 refine Zs ?_
 refine Zw (AX rfl rfl rfl) fun g2 => ?_
 refine Zw (AX rfl rfl rfl) fun g3 => ?_
 refine Za ?_
 refine Zx <| Zs ?_
 refine Zf Bf ?_
 refine Zl AJ ?_
 refine Zf Bf ?_
 refine Zl AJ ?_
 refine Zo (Bx rfl rfl rfl) ?_
 refine Zm ?_
 refine Seq.split 10 rfl (fun k1_5 => ?_) (fun k1_5 => ?_)
 ·refine Zk ?_
  iterate 11 refine Zk ?_
  refine Zt ?_
  refine Za ?_
  refine Zx <| DC.ret ?_
  refine Fin.weak (E' := [(4, _)]) ⟨rfl, trivial⟩ .nil ?_
  refine Zh ?_
  refine ⟨rfl, _, rfl, ?_⟩
  unfold Lex
  simp_all
  try omega
 refine Zf Bf ?_
 refine Zl AJ ?_
 refine Zf Bf ?_
 refine Zl AJ ?_
 refine Zo (AW rfl rfl rfl) ?_
 refine Zm ?_
 refine Seq.split 16 rfl (fun k1_11 => ?_) (fun k1_11 => ?_)
 ·refine Zf Bv ?_
  refine Zl AJ ?_
  refine Zf Bv ?_
  refine Zl AJ ?_
  refine Zo (Bx rfl rfl rfl) ?_
  refine Zt ?_
  refine Zg ?_
  refine Za ?_
  refine Zx <| DC.ret ?_
  refine Fin.weak (E' := [(4, _)]) ⟨rfl, trivial⟩ .nil ?_
  refine Zh ?_
  refine ⟨rfl, _, rfl, ?_⟩
  unfold Lex
  simp_all
  try omega
 iterate 5 refine Zk ?_
 iterate 2 refine Zg ?_
 refine Za ?_
 refine Zx <| DC.ret ?_
 refine Fin.weak (E' := [(4, _)]) ⟨rfl, trivial⟩ .nil ?_
 refine Zh ?_
 refine ⟨rfl, _, rfl, ?_⟩
 unfold Lex
 simp_all
 try omega
theorem H9 (A : Option Addr) (len cap : Nat) (w : World) : Calls Tryz.prog 220 #[.slice A len cap] w (Ret w [] fun v L => L = [] ∧ v = .int .i64 len) := by
 refine Ao (args := [_]) (L := []) Tryz.func220 rfl Tryz.ntmps220 rfl (Own.start _ _) ?_
 refine Zs ?_
 refine Za ?_
 refine Zx <| Zs ?_
 refine Zm ?_
 refine Zn Tryz.underlying153 ?_
 refine Za ?_
 refine Zx <| DC.ret ?_
 refine Zh ?_
 exact ⟨rfl, rfl⟩
theorem Ip (A : Option Addr) (len cap : Nat) (w : World) : Calls Tryz.prog 221 #[.slice A len cap] w (Ret w [] fun v L => L = [] ∧ v = .int .i64 len) := by
 refine Ao (args := [_]) (L := []) Tryz.func221 rfl Tryz.ntmps221 rfl (Own.start _ _) ?_
 refine Zs ?_
 refine Za ?_
 refine Zx <| Zs ?_
 refine Zm ?_
 refine Zn Tryz.underlying154 ?_
 refine Za ?_
 refine Zx <| DC.ret ?_
 refine Zh ?_
 exact ⟨rfl, rfl⟩
/-- The form of a certificate. -/
theorem If (b : Bool) (A A' : Option Addr) (n m cap cap' : Nat) (w : World) :
  Calls Tryz.prog 46 #[.agg #[.bool b, .slice A n cap, .slice A' m cap']] w (Ret w [] fun v L => L = [] ∧
   v = if b then .tuple #[.iface 153 (.slice A n cap), .bool (decide (m = 0))] else .tuple #[.iface 154 (.slice A' m cap'), .bool (decide (n = 0))]) := by
 refine Ao (args := [_]) (L := []) Tryz.func46 rfl Tryz.ntmps46 rfl (Own.start _ _) ?_
 refine Zs ?_
 refine Zw (AX rfl rfl rfl) fun g1 => ?_
 iterate 2 refine Za ?_
 refine Zx <| DC.seq <| Zs ?_
 refine Zf Ex ?_
 refine Zl MO ?_
 refine Zx ?_
 refine Zd (fun c1 => ?_) fun c1 => ?_
 ·refine DC.seq ?_
  refine AC (cl := [.q, .v, .q, .q, .v, .q, .q, .q, .q]) (A := [0, 1, 3, 0, 8, 24, 56, 7, 255]) (order := [0, 1, 2, 3, 4, 5, 6, 7, 8]) [] mixed (by kernel_rfl) (fun w hw => hw.pick .nil) ?_
  refine Yf C4 ?_
  refine Yl Fr ?_
  refine Yo rfl (Ep (v := .iface 153 (.slice A n cap)) rfl rfl (fun w => by kernel_rfl)) ?_
  refine Yf DZ ?_
  refine Yl B9 ?_
  refine Yo rfl (CY rfl rfl Ru) ?_
  refine Yo rfl (AW rfl rfl rfl) ?_
  refine Yo rfl (AF rfl rfl) ?_
  refine Yo rfl (AF rfl rfl) ?_
  refine Flow.end rfl ?_
  simp only [zq, zr]
  refine Fin.then <| DC.ret <| Aa ?_
  refine Fin.weak (E' := [(2, _), (3, _)]) ⟨rfl, rfl, trivial⟩ .nil ?_
  refine AI (.inl rfl) rfl rfl rfl ?_
  exact ⟨rfl, by subst c1; simp⟩
 refine DC.skip <| Fin.then <| DC.seq ?_
 refine AC (cl := [.q, .v, .q, .q, .v, .q, .q, .q, .q]) (A := [0, 1, 3, 0, 8, 24, 56, 7, 255]) (order := [0, 1, 2, 3, 4, 5, 6, 7, 8]) [] mixed (by kernel_rfl) (fun w hw => hw.pick .nil) ?_
 refine Yf DZ ?_
 refine Yl B9 ?_
 refine Yo rfl (Ep (v := .iface 154 (.slice A' m cap')) rfl rfl (fun w => by kernel_rfl)) ?_
 refine Yf C4 ?_
 refine Yl Fr ?_
 refine Yo rfl (CY rfl rfl Rw) ?_
 refine Yo rfl (AW rfl rfl rfl) ?_
 refine Yo rfl (AF rfl rfl) ?_
 refine Yo rfl (AF rfl rfl) ?_
 refine Flow.end rfl ?_
 simp only [zq, zr]
 refine Fin.then <| DC.ret ?_
 refine Fin.weak (E' := [(2, _), (3, _)]) ⟨rfl, rfl, trivial⟩ .nil ?_
 refine AI (.inl rfl) rfl rfl rfl ?_
 exact ⟨rfl, by subst c1; simp⟩
theorem Js (ls : List (List Int)) (v : Value) (w : World) (hv : LsV w v ls) :
  Calls Tryz.prog 47 #[.iface 153 v] w (Ret w [] fun r L => L = [] ∧ ∃ b, r = .tuple #[str [112], .int .i64 1048576, .bool b] ∧ (b = true ↔ ListsOk ls)) := by
 obtain ⟨A, cap, rfl, hr, hlc, hcm, hle⟩ := hv
 refine Ao (args := [_]) (L := []) Tryz.func47 rfl Tryz.ntmps47 rfl (Own.start _ _) ?_
 refine Zs ?_
 iterate 3 refine Za ?_
 refine Zx <| DC.seq <| Zs ?_
 refine Zm ?_
 refine Zx <| DC.block <| Zs ?_
 refine Zo (CA (v := .tuple #[.slice A ls.length cap, .bool true]) rfl rfl (fun w => by kernel_rfl)) ?_
 iterate 2 refine Ze ?_
 refine Zx ?_
 refine AG rfl ?_
 refine Zs ?_
 refine Za ?_
 refine Zx <| DC.seq <| Zs ?_
 refine Zm ?_
 refine Zn Tryz.underlying153 ?_
 refine Zo (Bx rfl rfl rfl) ?_
 refine Zx ?_
 refine Zd (fun c4 => ?_) fun c4 => ?_
 ·refine Zs ?_
  iterate 3 refine Za ?_
  refine Zx <| DC.ret <| Aa <| Ae <| Aa ?_
  refine Fin.weak (E' := [(2, _), (3, _), (4, _)]) ⟨rfl, rfl, rfl, trivial⟩ .nil ?_
  refine Bk (.inl rfl) rfl rfl rfl rfl ?_
  exact ⟨rfl, false, rfl, by simp; rintro ⟨h1, _⟩; simp at c4; omega⟩
 refine DC.skip <| Fin.then <| DC.seq <| Zs ?_
 refine Zm ?_
 refine Zn Tryz.underlying153 ?_
 refine Zm ?_
 refine Zx <| DC.block ?_
 refine DC.loop (ι := Nat) (fun i => i ≤ ls.length ∧ ∀ (j : Nat) l, j < i → ls[j]? = some l → ListOk l)
  (fun i => [(20, .slice A ls.length cap), (21, .int .i64 ls.length), (22, .int .i64 i)])
  (fun i => []) (fun i => ls.length - i) 0 ⟨Nat.zero_le _, fun _ _ h => absurd h (Rs _)⟩ ⟨rfl, rfl, rfl, trivial⟩ .nil ?_
 rintro i ⟨hi, hok⟩
 refine Zs ?_
 refine Zc ?_
 refine Zx <| DC.seq ?_
 refine Zd (fun c7 => ?_) fun c7 => ?_
 ·have hlt : i < ls.length := by simpa using c7
  obtain ⟨l, hl⟩ : ∃ l, ls[i]? = some l := ⟨_, Q8 hlt⟩
  obtain ⟨ad, lv, rfl, hc, Al, capl, rfl, hrl, hl1, hl2, hl3⟩ := hr i l hl
  refine DC.skip <| Fin.then <| DC.seq <| DC.block <| Zs ?_
  refine Zi Tryz.underlying153 Cn ?_
  refine Zu (Ak rfl rfl BS (AY hc)) ?_
  refine Za ?_
  refine Zx <| Zs ?_
  refine Zm ?_
  refine Zn Rt ?_
  refine Zm ?_
  refine Zx <| DC.block ?_
  refine DC.loop (ι := Nat) (fun k => k ≤ l.length ∧ ∀ (j : Nat) x a, j < k → l[j]? = some x → l[0]? = some a → Fits x ∧ a ≤ x)
   (fun k => [(7, .slice Al l.length capl), (20, .slice (some ad) ls.length cap), (21, .int .i64 ls.length), (22, .int .i64 i), (26, .slice Al l.length capl), (27, .int .i64 l.length), (28, .int .i64 k)])
   (fun k => []) (fun k => l.length - k) 0 ⟨Nat.zero_le _, fun _ _ _ h => absurd h (Rs _)⟩ ⟨rfl, rfl, rfl, rfl, rfl, rfl, rfl, trivial⟩ .nil ?_
  rintro k ⟨hk, hokl⟩
  refine Zs ?_
  refine Zc ?_
  refine Zx <| DC.seq ?_
  refine Zd (fun c10 => ?_) fun c10 => ?_
  ·have hlt2 : k < l.length := by simpa using c10
   obtain ⟨x, hx⟩ : ∃ x, l[k]? = some x := ⟨_, Q8 hlt2⟩
   obtain ⟨a, ha⟩ : ∃ a, l[0]? = some a := ⟨_, Q8 (by omega)⟩
   obtain ⟨adl, rfl, hcx⟩ := hrl.int hx
   obtain ⟨adl', e', hca⟩ := hrl.int ha
   cases e'
   refine DC.skip <| Fin.then <| DC.seq <| DC.block <| Zs ?_
   refine Zi Rt AN ?_
   refine Zu (Ak rfl rfl AJ (AY hcx)) ?_
   refine Za ?_
   refine Zx <| Zs ?_
   refine Zm ?_
   refine Seq.rel0 rfl rfl (Am PA rfl rfl rfl (fun w hw => Ev x w)) ?_
   rintro _ ⟨b1, rfl, hb1⟩
   refine Zo (Bb rfl rfl) ?_
   refine Zm ?_
   refine Seq.split 35 rfl (fun k12_3 => ?_) (fun k12_3 => ?_)
   ·refine Zk ?_
    iterate 4 refine Zk ?_
    refine Zt ?_
    refine Zx ?_
    refine AG rfl ?_
    refine Zs ?_
    iterate 3 refine Za ?_
    refine Zx <| DC.ret <| Ae <| Aa <| Aa <| Ae <| Ae <| Aa <| Aa <| Ae <| Aa <| Ae <| Aa ?_
    refine Fin.weak (E' := [(2, _), (3, _), (4, _)]) ⟨rfl, rfl, rfl, trivial⟩ .nil ?_
    refine Bk (.inl rfl) rfl rfl rfl rfl ?_
    refine ⟨rfl, false, rfl, by simp; rintro ⟨_, h2⟩; have := h2 i l hl k x a hx ha; simp_all⟩
   iterate 2 refine Zm ?_
   refine Zi Rt AN ?_
   refine Zu (Ak rfl rfl AJ (AY hca)) ?_
   refine Zc ?_
   refine Zg ?_
   refine Zx ?_
   refine Zd (fun c12 => ?_) fun c12 => ?_
   ·refine Zs ?_
    iterate 3 refine Za ?_
    refine Zx <| DC.ret <| Ae <| Aa <| Aa <| Ae <| Ae <| Aa <| Aa <| Ae <| Aa <| Ae <| Aa ?_
    refine Fin.weak (E' := [(2, _), (3, _), (4, _)]) ⟨rfl, rfl, rfl, trivial⟩ .nil ?_
    refine Bk (.inl rfl) rfl rfl rfl rfl ?_
    refine ⟨rfl, false, rfl, by simp; rintro ⟨_, h2⟩; have := h2 i l hl k x a hx ha; simp_all; omega⟩
   refine DC.skip <| Fin.inBlock <| Fin.then <| DC.region ?_
   refine Zp ?_
   refine Zm ?_
   refine Seq.nil ?_
   refine Fin.again (k + 1) (by omega) ⟨by omega, ?_⟩ ⟨rfl, rfl, rfl, rfl, rfl, rfl, rfl, trivial⟩ .nil
   intro j x' a' hj hx' ha'
   rcases Re.1 hj with hj | rfl
   ·exact hokl j x' a' hj hx' ha'
   rw [hx] at hx'; cases hx'; rw [ha] at ha'; cases ha'
   simp at k12_3 c12
   exact ⟨hb1.1 k12_3, by omega⟩
  refine DC.exit <| Ad <| Ad <| Ag <| Fin.inBlock <| Fin.then <| DC.region ?_
  refine Zp ?_
  refine Zm ?_
  refine Seq.nil ?_
  have hkl : k = l.length := by simp at c10; omega
  subst hkl
  refine Fin.again (i + 1) (by omega) ⟨by omega, ?_⟩ ⟨rfl, rfl, rfl, trivial⟩ .nil
  intro j l' hj hl'
  rcases Re.1 hj with hj | rfl
  ·exact hok j l' hj hl'
  rw [hl] at hl'; cases hl'
  intro q x' a' hq ha'
  exact hokl q x' a' (Q9.1 hq).1 hq ha'
 refine DC.exit <| Ad <| Ad <| Ag <| Fin.then <| Zs ?_
 iterate 3 refine Za ?_
 refine Zx <| DC.ret <| Ae <| Aa ?_
 refine Fin.weak (E' := [(2, _), (3, _), (4, _)]) ⟨rfl, rfl, rfl, trivial⟩ .nil ?_
 refine Bk (.inl rfl) rfl rfl rfl rfl ?_
 have hil : i = ls.length := by simp at c7; omega
 subst hil
 refine ⟨rfl, true, rfl, by simp; exact ⟨by simp at c4; omega, fun j l hl => hok j l (Q9.1 hl).1 hl⟩⟩
theorem Jt (es : List Pr) (v : Value) (w : World) (hv : PrV w v es) :
  Calls Tryz.prog 47 #[.iface 154 v] w (Ret w [] fun r L => L = [] ∧ ∃ b, r = .tuple #[str [110], .int .i64 4194304, .bool b] ∧ (b = true ↔ EdgesOk es)) := by
 obtain ⟨A, cap, rfl, hr, hlc, hcm, hle⟩ := hv
 refine Ao (args := [_]) (L := []) Tryz.func47 rfl Tryz.ntmps47 rfl (Own.start _ _) ?_
 refine Zs ?_
 iterate 3 refine Za ?_
 refine Zx <| DC.seq <| Zs ?_
 refine Zm ?_
 refine Zx <| DC.block <| Zs ?_
 refine Zo (CA (v := .tuple #[.slice none 0 0, .bool false]) rfl rfl (fun w => by kernel_rfl)) ?_
 iterate 2 refine Ze ?_
 refine Zx ?_
 refine Ba rfl ?_
 refine Zs ?_
 refine Zo (CA (v := .tuple #[.slice A es.length cap, .bool true]) rfl rfl (fun w => by kernel_rfl)) ?_
 iterate 2 refine Ze ?_
 refine Zx ?_
 refine AG rfl ?_
 refine Zs ?_
 refine Za ?_
 refine Zx <| DC.seq <| Zs ?_
 refine Zm ?_
 refine Zn Tryz.underlying154 ?_
 refine Zo (Bx rfl rfl rfl) ?_
 refine Zx ?_
 refine Zd (fun c19 => ?_) fun c19 => ?_
 ·refine Zs ?_
  iterate 3 refine Za ?_
  refine Zx <| DC.ret <| Aa <| Ae <| Aa ?_
  refine Fin.weak (E' := [(2, _), (3, _), (4, _)]) ⟨rfl, rfl, rfl, trivial⟩ .nil ?_
  refine Bk (.inl rfl) rfl rfl rfl rfl ?_
  exact ⟨rfl, false, rfl, by simp; intro h; have := h.few; simp at c19; omega⟩
 refine DC.skip <| Fin.then <| DC.seq <| Zs ?_
 refine Zm ?_
 refine Zn Tryz.underlying154 ?_
 refine Zm ?_
 refine Zx <| DC.block ?_
 refine DC.loop (ι := Nat) (fun i => i ≤ es.length ∧ (∀ (j : Nat) e, j < i → es[j]? = some e → Fits e.1 ∧ Fits e.2 ∧ e.1 < e.2) ∧ ∀ (j : Nat) a b, j + 1 < i → es[j]? = some a → es[j + 1]? = some b → Lex a b)
  (fun i => [(10, .slice A es.length cap), (50, .slice A es.length cap), (51, .int .i64 es.length), (52, .int .i64 i)])
  (fun i => []) (fun i => es.length - i) 0 ⟨Nat.zero_le _, fun _ _ h => absurd h (Rs _), fun _ _ _ h => absurd h (Rs _)⟩ ⟨rfl, rfl, rfl, rfl, trivial⟩ .nil ?_
 rintro i ⟨hi, hok, hup⟩
 refine Zs ?_
 refine Zc ?_
 refine Zx <| DC.seq ?_
 refine Zd (fun c22 => ?_) fun c22 => ?_
 ·have hlt : i < es.length := by simpa using c22
  obtain ⟨e, he⟩ : ∃ e, es[i]? = some e := ⟨_, Q8 hlt⟩
  obtain ⟨ad, rfl, hU, hV⟩ := hr.pair he
  refine DC.skip <| Fin.then <| DC.seq <| DC.block <| Zs ?_
  refine Zm ?_
  refine Zo (AT rfl rfl rfl Tryz.underlying154 AP (by omega) (by omega) (by first | exact Az _ _ | exact AS _ _ _ | rfl)) ?_
  refine Zu (Aq (vs := [_, _]) rfl rfl BW AP rfl (CC hU hV (by simp))) ?_
  refine Zw (Ay rfl B6 rfl) fun g12 => ?_
  refine Za ?_
  refine Zy (Ah (cs' := #[_, _]) rfl rfl rfl AP rfl (Ra rfl) rfl) ?_
  refine Zx <| DC.seq ?_
  refine AC (cl := [.q, .v, .r, .q, .q, .q, .v, .r, .q, .q, .q, .q, .v, .q, .v, .q, .q, .q, .q, .q, .q, .q, .q, .q, .q, .v, .v, .r, .q, .q, .q]) (A := [0, 1, 3, 7, 15, 31, 63, 127, 255, 511, 1023, 2047, 4095, 2047, 10239, 32767, 65535, 131071, 262143, 524287, 1048575, 2097151, 2097151, 6291455, 16777215, 33554431, 2097151, 134217727, 268435455, 536870911, 1073741823]) (order := [0, 1, 2, 3, 4, 5, 6, 7, 8, 9, 10, 11, 12, 13, 14, 15, 16, 17, 18, 19, 20, 21, 22, 23, 24, 25, 26, 27, 28, 29, 30]) [] mixed (by kernel_rfl) (fun w hw => hw.pick .nil) ?_
  refine Yf Bf ?_
  refine Yl AJ ?_
  refine Flow.rel0 rfl rfl rfl rfl (Am PA rfl rfl rfl (fun w hw => Ev e.1 w)) ?_
  rintro _ ⟨b1, rfl, hb1⟩
  refine Yo rfl (Bb rfl rfl) ?_
  refine Ym ?_
  refine Flow.split 61 rfl (fun k24_4 => ?_) (fun k24_4 => ?_)
  ·refine Yk ?_
   iterate 3 refine Yk ?_
   refine Yo rfl (A7 rfl rfl rfl) ?_
   refine Ym ?_
   iterate 5 refine Yk ?_
   refine Yo rfl (A7 rfl rfl rfl) ?_
   refine Ym ?_
   iterate 12 refine Yk ?_
   refine Yo rfl (A7 rfl rfl rfl) ?_
   refine Flow.end rfl ?_
   simp only [zq, zr]
   refine Fin.then ?_
   refine AG rfl ?_
   refine Zs ?_
   iterate 3 refine Za ?_
   refine Zx <| DC.ret <| Ae <| Aa <| Aa <| Ae <| Aa <| Ae <| Aa ?_
   refine Fin.weak (E' := [(2, _), (3, _), (4, _)]) ⟨rfl, rfl, rfl, trivial⟩ .nil ?_
   refine Bk (.inl rfl) rfl rfl rfl rfl ?_
   exact ⟨rfl, false, rfl, by simp; intro h; have := h.ok i e he; simp_all⟩
  refine Yf Bv ?_
  refine Yl AJ ?_
  refine Flow.rel0 rfl rfl rfl rfl (Am PA rfl rfl rfl (fun w hw => Ev e.2 w)) ?_
  rintro _ ⟨b2, rfl, hb2⟩
  refine Yo rfl (Bb rfl rfl) ?_
  refine Yo rfl (Bc rfl rfl rfl) ?_
  refine Ym ?_
  refine Flow.split 67 rfl (fun k24_10 => ?_) (fun k24_10 => ?_)
  ·refine Yk ?_
   iterate 4 refine Yk ?_
   refine Yo rfl (A7 rfl rfl rfl) ?_
   refine Ym ?_
   iterate 12 refine Yk ?_
   refine Yo rfl (A7 rfl rfl rfl) ?_
   refine Flow.end rfl ?_
   simp only [zq, zr]
   refine Fin.then ?_
   refine AG rfl ?_
   refine Zs ?_
   iterate 3 refine Za ?_
   refine Zx <| DC.ret <| Ae <| Aa <| Aa <| Ae <| Aa <| Ae <| Aa ?_
   refine Fin.weak (E' := [(2, _), (3, _), (4, _)]) ⟨rfl, rfl, rfl, trivial⟩ .nil ?_
   refine Bk (.inl rfl) rfl rfl rfl rfl ?_
   exact ⟨rfl, false, rfl, by simp; intro h; have := h.ok i e he; simp_all⟩
  refine Yf Bf ?_
  refine Yl AJ ?_
  refine Yf Bv ?_
  refine Yl AJ ?_
  refine Yo rfl (Ck rfl rfl rfl) ?_
  refine Yo rfl (Bc rfl rfl rfl) ?_
  refine Ym ?_
  refine Flow.split 74 rfl (fun k24_17 => ?_) (fun k24_17 => ?_)
  ·refine Yk ?_
   iterate 11 refine Yk ?_
   refine Yo rfl (A7 rfl rfl rfl) ?_
   refine Flow.end rfl ?_
   simp only [zq, zr]
   refine Fin.then ?_
   refine AG rfl ?_
   refine Zs ?_
   iterate 3 refine Za ?_
   refine Zx <| DC.ret <| Ae <| Aa <| Aa <| Ae <| Aa <| Ae <| Aa ?_
   refine Fin.weak (E' := [(2, _), (3, _), (4, _)]) ⟨rfl, rfl, rfl, trivial⟩ .nil ?_
   refine Bk (.inl rfl) rfl rfl rfl rfl ?_
   exact ⟨rfl, false, rfl, by simp; intro h; have := h.ok i e he; simp_all; omega⟩
  refine Ym ?_
  refine Yo rfl (Bx rfl rfl rfl) ?_
  refine Ym ?_
  refine Flow.split 77 rfl (fun k24_20 => ?_) (fun k24_20 => ?_)
  ·have hpos : 0 < i := by simpa using k24_20
   obtain ⟨d, hd⟩ : ∃ d, es[i - 1]? = some d := ⟨_, Q8 (by omega)⟩
   obtain ⟨ad', h', hU', hV'⟩ := hr.pair hd
   cases h'
   have hii : ((i : Int) - 1).toNat = i - 1 := by omega
   iterate 2 refine Ym ?_
   refine Yo rfl (Ce rfl rfl rfl (by omega)) ?_
   refine Yo rfl (AT (ad' := ad.add ((i - 1) * 2)) rfl rfl rfl Tryz.underlying154 AP (by omega) (by omega) (by rw [hii])) ?_
   refine Ar rfl rfl rfl rfl (Aq (vs := [_, _]) rfl rfl BW AP rfl (CC hU' hV' (by simp))) ?_
   refine Ar rfl rfl rfl rfl (Aq (vs := [_, _]) rfl rfl BW AP rfl (Ai rfl)) ?_
   refine Flow.rel0 rfl rfl rfl rfl (Am Qk rfl rfl rfl (fun w hw => FC d.1 d.2 e.1 e.2 w)) ?_
   rintro _ ⟨b3, rfl, hb3⟩
   refine Yo rfl (Bb rfl rfl) ?_
   refine Yo rfl (A7 rfl rfl rfl) ?_
   refine Yo rfl (Bc rfl rfl rfl) ?_
   refine Flow.end rfl ?_
   simp only [zq, zr]
   refine Fin.then ?_
   refine Zd (fun c24 => ?_) fun c24 => ?_
   ·refine Zs ?_
    iterate 3 refine Za ?_
    refine Zx <| DC.ret <| Ae <| Aa <| Aa <| Ae <| Aa <| Ae <| Aa ?_
    refine Fin.weak (E' := [(2, _), (3, _), (4, _)]) ⟨rfl, rfl, rfl, trivial⟩ .nil ?_
    refine Bk (.inl rfl) rfl rfl rfl rfl ?_
    refine ⟨rfl, false, rfl, by simp; intro h; have := h.up (i - 1) d e hd (by rw [show i - 1 + 1 = i by omega]; exact he); simp_all⟩
   refine DC.skip <| Fin.inBlock <| Fin.then <| DC.region ?_
   refine Zp ?_
   refine Zm ?_
   refine Seq.nil ?_
   refine Fin.again (i + 1) (by omega) ⟨by omega, ?_, ?_⟩ ⟨rfl, rfl, rfl, rfl, trivial⟩ .nil
   ·intro j x hj hx
    rcases Re.1 hj with hj | rfl
    ·exact hok j x hj hx
    rw [he] at hx; cases hx
    simp at k24_4 k24_10 k24_17
    exact ⟨hb1.1 k24_4, hb2.1 k24_10, by omega⟩
   intro j a b hj ha hb
   rcases Re.1 hj with hj | hj
   ·exact hup j a b hj ha hb
   obtain rfl : j = i - 1 := by omega
   rw [hd] at ha; cases ha
   rw [show i - 1 + 1 = i by omega, he] at hb; cases hb
   exact hb3.1 (by simpa using c24)
  iterate 8 refine Yk ?_
  refine Yo rfl (Bc rfl rfl rfl) ?_
  refine Yo rfl (Bc rfl rfl rfl) ?_
  refine Flow.end rfl ?_
  simp only [zq, zr]
  refine Fin.then ?_
  refine Ba rfl ?_
  refine DC.skip <| Fin.inBlock <| Fin.then <| DC.region ?_
  refine Zp ?_
  refine Zm ?_
  refine Seq.nil ?_
  have h0 : i = 0 := by simp at k24_20; omega
  subst h0
  refine Fin.again 1 (by omega) ⟨by omega, ?_, ?_⟩ ⟨rfl, rfl, rfl, rfl, trivial⟩ .nil
  ·intro j x hj hx
   obtain rfl : j = 0 := by omega
   rw [he] at hx; cases hx
   simp at k24_4 k24_10 k24_17
   exact ⟨hb1.1 k24_4, hb2.1 k24_10, by omega⟩
  intro j a b hj; omega
 refine DC.exit <| Ad <| Ad <| Ag <| Fin.then <| Zs ?_
 iterate 3 refine Za ?_
 refine Zx <| DC.ret <| Ae <| Aa ?_
 refine Fin.weak (E' := [(2, _), (3, _), (4, _)]) ⟨rfl, rfl, rfl, trivial⟩ .nil ?_
 refine Bk (.inl rfl) rfl rfl rfl rfl ?_
 have hil : i = es.length := by simp at c22; omega
 subst hil
 refine ⟨rfl, true, rfl, by simp; exact ⟨by simp at c19; omega, fun j e h => hok j e (Q9.1 h).1 h, fun j a b ha hb => hup j a b (Q9.1 hb).1 ha hb⟩⟩
open Classical
/-- A line of two numbers of a certificate's text. -/
noncomputable def edgeP (bs : List UInt8) (i : Nat) (es : List Pr) : Option (Pr × Nat) :=
 match numP bs i with
 | none => none
 | some (u, j) => if bs[j]? = some 32 then
   (match numP bs (j + 1) with
   | none => none
   | some (v, k) => if v ≤ u then none else if ∃ d, es[es.length - 1]? = some d ∧ ¬ Lex d (u, v) then none else if bs[k]? = some 10 then some ((u, v), k + 1) else none)
  else none
theorem L8 {w : World} {ad : Addr} {l c k : Nat} {es : List Pr} {d : Pr} (h : PrV w (.slice (some ad) l c) es) (hi : es[k]? = some d) : ∀ (j : Nat) u, [Value.int .i64 d.1, .int .i64 d.2][j]? = some u → w.cell? ((ad.add (k * 2)).add j) = some u := by
 obtain ⟨A, cap, e, hr, _⟩ := h
 cases e
 obtain ⟨ad', e', h1, h2⟩ := hr.pair hi
 cases e'
 intro j u hj
 match j with
 | 0 => simp at hj; subst hj; simpa [Addr.add] using h1
 | 1 => simp at hj; subst hj; rw [F0 _ _ _ (by decide)]; exact h2
theorem JT {g i : Nat} {vb vl : Value} {bad : Int} {bs : List UInt8} {es : List Pr} {w : World} (hO : Own w (idsOf [rdC g vb i bad]) w [rdC g vb i bad]) (hB : ByV w vb bs) (ho : ByO vb bs (idsOf [rdC g vb i bad])) (hb : bs.length ≤ 33554432) (hil : i ≤ bs.length)
  (hL : ∀ (w' : World) L', Own w (idsOf [rdC g vb i bad]) w' L' → PrV w' vl es) :
  Calls Tryz.prog 81 #[.pointer (some ⟨g, 0, none⟩), vl] w (Ret w (idsOf [rdC g vb i bad]) fun r M => ∃ a b ok j bad', r = .tuple #[.agg #[.int .i64 a, .int .i64 b], .bool ok] ∧ M = [rdC g vb j bad'] ∧ j ≤ bs.length ∧ (ok = true → edgeP bs i es = some ((a, b), j)) ∧ (ok = false → edgeP bs i es = none)) := by
 obtain ⟨A, cap, hvl, hrd0, hlc, hcm, hle⟩ := hL w _ hO
 subst hvl
 refine Ao (args := [_, _]) Tryz.func81 rfl Tryz.ntmps81 rfl hO ?_
 refine Zs ?_
 refine Zw (Ay rfl B6 rfl) fun g4 => ?_
 refine Za ?_
 refine Zx <| DC.seq ?_
 refine DC.own (M := [rdC g vb i bad, blk g4 43 #[.int .i64 0, .int .i64 0]]) (fun w hw => hw.perm (List.Perm.swap _ _ _)) ?_
 refine DC.region ?_
 refine Zm ?_
 refine Seq.gen rfl rfl (AQ OQ rfl rfl rfl (Lc := [rdC g vb i bad]) (F := [blk g4 43 #[.int .i64 0, .int .i64 0]]) (.refl _) (fun k hk => hk) (fun w hw => CE (hw.sub (L' := [rdC g vb i bad]) (.cons_cons _ (Rh _))).self (hB.keep ho hw) (ByO.step (L := [rdC g vb i bad]) hB ho (hw.sub (.cons_cons _ (Rh _)))) hb hil)) ?_
 rintro _ _ ⟨_, ⟨u, fine, j, bad1, rfl, rfl, ⟨hij, hjl⟩, hy1, hn1⟩, rfl⟩
 simp only [zs]
 have hsh : edgeP bs i es = (match numP bs i with
  | none => none
  | some (u, j) => if bs[j]? = some 32 then
   (match numP bs (j + 1) with
   | none => none
   | some (v, k) => if v ≤ u then none else if ∃ d, es[es.length - 1]? = some d ∧ ¬ Lex d (u, v) then none else if bs[k]? = some 10 then some ((u, v), k + 1) else none)
  else none) := rfl
 refine Zm ?_
 iterate 3 refine Ze ?_
 iterate 3 refine Za ?_
 refine Zx <| DC.seq <| Zs ?_
 refine Zm ?_
 refine Zo (Bb rfl rfl) ?_
 refine Zm ?_
 refine Seq.split 20 rfl (fun k2_2 => ?_) (fun k2_2 => ?_)
 ·have hnum := hn1 (by simpa using k2_2)
  rw [hnum] at hsh
  dsimp only at hsh
  iterate 3 refine Zk ?_
  refine Zt ?_
  refine Zx ?_
  refine AG rfl ?_
  refine Zs ?_
  refine Zo (As (cs := #[_, _]) rfl rfl E0 rfl rfl) ?_
  refine Zy (Ah (cs' := #[_, _]) rfl rfl rfl AP rfl (Ra rfl) rfl) ?_
  refine Za ?_
  refine Zx <| DC.ret <| Aa ?_
  refine AK (cs := #[_, _]) (.inl rfl) rfl rfl rfl BW AP ?_
  exact ⟨[rdC g vb j bad1], fun w hw => hw.pick (.cons 0 rfl .nil), 0, 0, false, j, bad1, rfl, rfl, hjl, by simp, fun _ => hsh⟩
 obtain ⟨hnum, hij', rfl, hu0, hu1⟩ := hy1 (by simpa using k2_2)
 rw [hnum] at hsh
 dsimp only at hsh
 refine Zm ?_
 refine Seq.gen rfl rfl (AQ NJ rfl rfl rfl (Lc := [rdC g vb j bad1]) (F := [blk g4 43 #[.int .i64 0, .int .i64 0]]) (.refl _) (fun k hk => hk) (fun w hw => CN (c := 32) (hw.sub (L' := [rdC g vb j bad1]) (.cons_cons _ (Rh _))).self (hB.keep ho hw) (ByO.step (L := [rdC g vb j bad1]) hB ho (hw.sub (.cons_cons _ (Rh _)))) hb)) ?_
 rintro _ _ ⟨_, ⟨b22, j2, bad2, rfl, rfl, hw1, hw2⟩, rfl⟩
 simp only [zs]
 have hj2l : j2 ≤ bs.length := by
  cases b22 with
  | true => exact (hw1 rfl).2.2.1
  | false => have := (hw2 rfl).2; omega
 refine Zo (Bb rfl rfl) ?_
 refine Zg ?_
 refine Zx ?_
 refine Zd (fun c2 => ?_) fun c2 => ?_
 ·rw [if_neg (hw2 (by simpa using c2)).1] at hsh
  refine Zs ?_
  refine Zo (As (cs := #[_, _]) rfl rfl E0 rfl rfl) ?_
  refine Zy (Ah (cs' := #[_, _]) rfl rfl rfl AP rfl (Ra rfl) rfl) ?_
  refine Za ?_
  refine Zx <| DC.ret <| Aa ?_
  refine AK (cs := #[_, _]) (.inl rfl) rfl rfl rfl BW AP ?_
  exact ⟨[rdC g vb j2 bad2], fun w hw => hw.pick (.cons 0 rfl .nil), 0, 0, false, j2, bad2, rfl, rfl, hj2l, by simp, fun _ => hsh⟩
 obtain ⟨hb32, hj2, _, rfl⟩ := hw1 (by simpa using c2)
 rw [if_pos hb32, ← hj2] at hsh
 refine DC.skip <| Fin.then <| Zs ?_
 refine Zm ?_
 refine Seq.gen rfl rfl (AQ OQ rfl rfl rfl (Lc := [rdC g vb j2 bad2]) (F := [blk g4 43 #[.int .i64 0, .int .i64 0]]) (.refl _) (fun k hk => hk) (fun w hw => CE (hw.sub (L' := [rdC g vb j2 bad2]) (.cons_cons _ (Rh _))).self (hB.keep ho hw) (ByO.step (L := [rdC g vb j2 bad2]) hB ho (hw.sub (.cons_cons _ (Rh _)))) hb hj2l)) ?_
 rintro _ _ ⟨_, ⟨v, fine2, k, bad3, rfl, rfl, ⟨hjk, hkl⟩, hy2, hn2⟩, rfl⟩
 simp only [zs]
 refine Zm ?_
 iterate 3 refine Ze ?_
 iterate 3 refine Za ?_
 refine Zx <| DC.seq <| Zs ?_
 refine Zm ?_
 refine Zo (Bb rfl rfl) ?_
 refine Zx ?_
 refine Zd (fun c5 => ?_) fun c5 => ?_
 ·rw [hn2 (by simpa using c5)] at hsh
  dsimp only at hsh
  refine Zs ?_
  refine Zo (As (cs := #[_, _]) rfl rfl E0 rfl rfl) ?_
  refine Zy (Ah (cs' := #[_, _]) rfl rfl rfl AP rfl (Ra rfl) rfl) ?_
  refine Za ?_
  refine Zx <| DC.ret <| Aa ?_
  refine AK (cs := #[_, _]) (.inl rfl) rfl rfl rfl BW AP ?_
  exact ⟨[rdC g vb k bad3], fun w hw => hw.pick (.cons 0 rfl .nil), 0, 0, false, k, bad3, rfl, rfl, hkl, by simp, fun _ => hsh⟩
 obtain ⟨hnum2, hjk', rfl, hv0, hv1⟩ := hy2 (by simpa using c5)
 rw [hnum2] at hsh
 dsimp only at hsh
 refine DC.skip <| Fin.then <| Zs ?_
 iterate 2 refine Zm ?_
 refine Zo (As (cs := #[_, _]) rfl rfl E0 rfl rfl) ?_
 refine Zw (Ay rfl B6 rfl) fun g11 => ?_
 refine Zy (Ah (cs' := #[_, _]) rfl rfl rfl AP rfl (Ra rfl) rfl) ?_
 refine Zx <| DC.seq <| DC.seq ?_
 refine DC.own (M := [rdC g vb k bad3, blk g11 43 #[.int .i64 u, .int .i64 v], blk g4 43 #[.int .i64 0, .int .i64 0]]) (fun w hw => hw.perm (List.Perm.swap _ _ _)) ?_
 refine DC.region ?_
 iterate 2 refine Zm ?_
 refine Zo (Ck rfl rfl rfl) ?_
 refine Zx ?_
 refine Zd (fun c8 => ?_) fun c8 => ?_
 ·rw [if_pos (show v ≤ u by simp at c8; omega)] at hsh
  refine DC.seq ?_
  refine AC (cl := [.q, .q, .q, .g, .g, .q]) (A := [0, 0, 0, 6, 15, 31]) (order := [0, 1, 2, 3, 4, 5]) ([blk g11 43 #[.int .i64 u, .int .i64 v]]) mixed (by kernel_rfl) (fun w hw => hw.pick (.cons 1 rfl .nil)) ?_
  refine Flow.old rfl rfl rfl (Aq (vs := [_, _]) rfl rfl BW AP rfl (Ai rfl)) ?_
  iterate 2 refine Ym ?_
  refine Flow.gen0 rfl rfl rfl rfl (AQ G8 rfl rfl rfl (Lc := [rdC g vb k bad3]) (F := [blk g11 43 #[.int .i64 u, .int .i64 v], blk g4 43 #[.int .i64 0, .int .i64 0]]) (.refl _) (fun k hk => hk) (fun w hw => BC (hw.sub (L' := [rdC g vb k bad3]) (.cons_cons _ (Rh _))).self)) (fun v L' hC w hw => hw.pick (by obtain ⟨_, ⟨_, _, rfl⟩, rfl⟩ := hC; exact .cons 1 rfl .nil)) ?_
  rintro _ _ ⟨_, ⟨rfl, bad4, rfl⟩, rfl⟩
  simp only [zs]
  refine AD rfl rfl rfl rfl (Ah (cs' := #[_, _]) rfl rfl rfl AP rfl (Ra rfl) rfl) (fun w hw => hw.pick (.cons 1 rfl .nil)) ?_
  refine Yo rfl (AF rfl rfl) ?_
  refine Flow.end rfl ?_
  simp only [zq, zr]
  refine Fin.then <| DC.ret <| Aa ?_
  refine AK (cs := #[_, _]) (.inl rfl) rfl rfl rfl BW AP ?_
  exact ⟨[rdC g vb k bad4], fun w hw => hw.pick (.cons 0 rfl .nil), u, v, false, k, bad4, rfl, rfl, hkl, by simp, fun _ => hsh⟩
 rw [if_neg (show ¬ v ≤ u by simp at c8; omega)] at hsh
 refine DC.skip <| Fin.then ?_
 refine DC.cut (ι := Unit) (fun _ => ¬ ∃ d, es[es.length - 1]? = some d ∧ ¬ Lex d (u, v)) (fun _ => [(0, .pointer (some ⟨g, 0, none⟩)), (4, .pointer (some ⟨g4, 0, none⟩)), (11, .pointer (some ⟨g11, 0, none⟩))])
  (fun _ => [rdC g vb k bad3, blk g11 43 #[.int .i64 u, .int .i64 v], blk g4 43 #[.int .i64 0, .int .i64 0]]) ?first11 ?rest11
 case first11 =>
  refine DC.seq ?_
  refine AC (cl := [.q, .q, .q, .q, .q, .q, .q, .q, .q, .v, .v, .r, .q, .q]) (A := [0, 1, 3, 7, 15, 15, 47, 111, 255, 511, 15, 2047, 4095, 8191]) (order := [0, 1, 2, 3, 4, 5, 6, 7, 8, 9, 10, 11, 12, 13]) [] mixed (by kernel_rfl) (fun w hw => hw.pick .nil) ?_
  refine Ym ?_
  refine Yo rfl (CY rfl rfl Ru) ?_
  refine Yo rfl (Bx rfl rfl rfl) ?_
  refine Ym ?_
  refine Flow.split 48 rfl (fun k10_3 => ?_) (fun k10_3 => ?_)
  ·have hlen : 0 < es.length := by have := of_decide_eq_true k10_3; omega
   obtain ⟨d, hd⟩ : ∃ d, es[es.length - 1]? = some d := ⟨_, Q8 (by omega)⟩
   obtain ⟨ad, rfl, _⟩ := hrd0.pair hd
   iterate 2 refine Ym ?_
   refine Yo rfl (CY rfl rfl Ru) ?_
   refine Yo rfl (Ce rfl rfl rfl (by omega)) ?_
   refine Yo rfl (AT (ad' := ad.add ((es.length - 1) * 2)) rfl rfl rfl Ru AP (by omega) (by omega) (by congr 1; omega)) ?_
   refine Ar rfl rfl rfl rfl (Aq (vs := [_, _]) rfl rfl BW AP rfl (fun w' hw' => L8 (hL w' _ hw') hd)) ?_
   refine Ar rfl rfl rfl rfl (Aq (vs := [_, _]) rfl rfl BW AP rfl (Ai rfl)) ?_
   refine Flow.rel0 rfl rfl rfl rfl (Am Qk rfl rfl rfl (fun w hw => FC _ _ _ _ w)) ?_
   rintro _ ⟨b56, rfl, hb56⟩
   refine Yo rfl (Bb rfl rfl) ?_
   refine Yo rfl (A7 rfl rfl rfl) ?_
   refine Flow.end rfl ?_
   simp only [zq, zr]
   refine Fin.then ?_
   refine Zd (fun c10 => ?_) fun c10 => ?_
   ·have hbad : ∃ d, es[es.length - 1]? = some d ∧ ¬ Lex d (u, v) := ⟨d, hd, fun h => by rw [hb56.2 h] at c10; simp at c10⟩
    rw [if_pos hbad] at hsh
    refine DC.seq ?_
    refine AC (cl := [.q, .q, .q, .g, .g, .q]) (A := [0, 0, 0, 6, 15, 31]) (order := [0, 1, 2, 3, 4, 5]) ([blk g11 43 #[.int .i64 u, .int .i64 v]]) mixed (by kernel_rfl) (fun w hw => hw.pick (.cons 1 rfl .nil)) ?_
    refine Flow.old rfl rfl rfl (Aq (vs := [_, _]) rfl rfl BW AP rfl (Ai rfl)) ?_
    iterate 2 refine Ym ?_
    refine Flow.gen0 rfl rfl rfl rfl (AQ G8 rfl rfl rfl (Lc := [rdC g vb k bad3]) (F := [blk g11 43 #[.int .i64 u, .int .i64 v], blk g4 43 #[.int .i64 0, .int .i64 0]]) (.refl _) (fun k hk => hk) (fun w hw => BC (hw.sub (L' := [rdC g vb k bad3]) (.cons_cons _ (Rh _))).self)) (fun v L' hC w hw => hw.pick (by obtain ⟨_, ⟨_, _, rfl⟩, rfl⟩ := hC; exact .cons 1 rfl .nil)) ?_
    rintro _ _ ⟨_, ⟨rfl, bad4, rfl⟩, rfl⟩
    simp only [zs]
    refine AD rfl rfl rfl rfl (Ah (cs' := #[_, _]) rfl rfl rfl AP rfl (Ra rfl) rfl) (fun w hw => hw.pick (.cons 1 rfl .nil)) ?_
    refine Yo rfl (AF rfl rfl) ?_
    refine Flow.end rfl ?_
    simp only [zq, zr]
    refine Fin.then <| DC.ret <| Aa ?_
    refine AK (cs := #[_, _]) (.inl rfl) rfl rfl rfl BW AP ?_
    exact ⟨[rdC g vb k bad4], fun w hw => hw.pick (.cons 0 rfl .nil), u, v, false, k, bad4, rfl, rfl, hkl, by simp, fun _ => hsh⟩
   refine DC.skip ?_
   refine AO () ?_ ⟨rfl, rfl, rfl, trivial⟩ (Pick.all _)
   rintro ⟨d', hd', hn⟩
   first
   | (rw [hd] at hd'; cases hd'
      exact hn (hb56.1 (by simpa using c10)))
   | (have := (Q9.1 hd').1; omega)
  have hlen : es.length = 0 := by have := of_decide_eq_false k10_3; omega
  iterate 9 refine Yk ?_
  refine Yo rfl (Bc rfl rfl rfl) ?_
  refine Flow.end rfl ?_
  simp only [zq, zr]
  refine Fin.then ?_
  refine Ba rfl ?_
  refine DC.skip ?_
  refine AO () ?_ ⟨rfl, rfl, rfl, trivial⟩ (Pick.all _)
  rintro ⟨d', hd', hn⟩
  first
  | (rw [hd] at hd'; cases hd'
     exact hn (hb56.1 (by simpa using c10)))
  | (have := (Q9.1 hd').1; omega)
 rintro ⟨⟩ hgood
 rw [if_neg hgood] at hsh
 refine DC.seq ?_
 refine AC (cl := [.q, .q, .g, .g, .q]) (A := [0, 0, 2, 7, 15]) (order := [0, 1, 2, 3, 4]) ([blk g11 43 #[.int .i64 u, .int .i64 v]]) mixed (by kernel_rfl) (fun w hw => hw.pick (.cons 1 rfl .nil)) ?_
 refine Flow.old rfl rfl rfl (Aq (vs := [_, _]) rfl rfl BW AP rfl (Ai rfl)) ?_
 refine Ym ?_
 refine Flow.gen0 rfl rfl rfl rfl (AQ NJ rfl rfl rfl (Lc := [rdC g vb k bad3]) (F := [blk g11 43 #[.int .i64 u, .int .i64 v], blk g4 43 #[.int .i64 0, .int .i64 0]]) (.refl _) (fun k hk => hk) (fun w hw => CN (c := 10) (hw.sub (L' := [rdC g vb k bad3]) (.cons_cons _ (Rh _))).self (hB.keep ho hw) (ByO.step (L := [rdC g vb k bad3]) hB ho (hw.sub (.cons_cons _ (Rh _)))) hb)) (fun v L' hC w hw => hw.pick (by obtain ⟨_, ⟨_, _, _, _, rfl, _⟩, rfl⟩ := hC; exact .cons 1 rfl .nil)) ?_
 rintro _ _ ⟨_, ⟨b65, k2, bad4, rfl, rfl, hw3, hw4⟩, rfl⟩
 simp only [zs]
 refine AD rfl rfl rfl rfl (Ah (cs' := #[_, _]) rfl rfl rfl AP rfl (Ra rfl) rfl) (fun w hw => hw.pick (.cons 1 rfl .nil)) ?_
 refine Yo rfl (AF rfl rfl) ?_
 refine Flow.end rfl ?_
 simp only [zq, zr]
 refine Fin.then <| DC.ret ?_
 refine AK (cs := #[_, _]) (.inl rfl) rfl rfl rfl BW AP ?_
 refine ⟨[rdC g vb k2 bad4], fun w hw => hw.pick (.cons 0 rfl .nil), u, v, b65, k2, bad4, rfl, rfl, ?_, fun h => ?_, fun h => ?_⟩
 ·cases b65 with
  | true => exact (hw3 rfl).2.2.1
  | false => have := (hw4 rfl).2; omega
 ·rw [hsh, if_pos (hw3 h).1, (hw3 h).2.1]
 rw [hsh, if_neg (hw4 h).1]
end Go.Fl

namespace Go.Fl
open Go
theorem Cv : ∀ (k u : Nat), u < 10 ^ (k + 1) → (Lib.decDigits u).length ≤ k + 1
 | 0, u, h => by rw [Lib.decDigits, dif_pos (by simpa using h)]; simp
 | k + 1, u, h => by
  rw [Lib.decDigits]
  split
  ·simp
  have := Cv k (u / 10) (by rw [Nat.div_lt_iff_lt_mul (by decide)]; rw [Nat.pow_succ] at h; exact h)
  simp; omega
theorem Jp {a : Int} (h : -9223372036854775808 ≤ a ∧ a ≤ 9223372036854775807) : (Lib.itoa a).length ≤ 20 := by
 unfold Lib.itoa
 split
 ·have := Cv 18 a.natAbs (by rw [show (10 : Nat) ^ (18 + 1) = 10000000000000000000 by decide]; omega)
  simp; omega
 have := Cv 18 a.toNat (by rw [show (10 : Nat) ^ (18 + 1) = 10000000000000000000 by decide]; omega)
 omega
def lineB (ns : List Int) : List UInt8 := Lib.join (ns.map Lib.itoa) [32] ++ [10]
theorem GA {k : Nat} : ∀ (xs : List (List UInt8)), (∀ x, x ∈ xs → x.length ≤ k) → (Lib.join xs [32]).length ≤ (k + 1) * xs.length
 | [], _ => by simp [Lib.join]
 | [x], h => by simp [Lib.join, List.intercalate]; have := h x (by simp); omega
 | x :: y :: r, h => by
  have h1 := h x (by simp)
  have h2 := GA (y :: r) (fun z hz => h z (Rm _ hz))
  have e : Lib.join (x :: y :: r) [32] = x ++ [32] ++ Lib.join (y :: r) [32] := by simp [Lib.join, List.intercalate, List.intersperse]
  rw [e]
  simp only [List.length_append, List.length_cons, List.length_nil] at h2 ⊢
  rw [Nat.mul_add, Nat.mul_add] at *
  omega
def I64 (a : Int) : Prop := -9223372036854775808 ≤ a ∧ a ≤ 9223372036854775807
theorem Cr {ns : List Int} (h : ∀ a, a ∈ ns → I64 a) : (lineB ns).length ≤ 21 * ns.length + 1 := by
 have := GA (k := 20) (ns.map Lib.itoa) (by simp; intro a ha; exact Jp (h a ha))
 simp [lineB] at this ⊢; omega
def strs (xs : List (List UInt8)) : List Value := xs.map str
@[simp] theorem strs_length (xs : List (List UInt8)) : (strs xs).length = xs.length := by simp [strs]
theorem MW (a : List (List UInt8)) : ∀ u, u ∈ strs a → u.oneCell' = true := by
 intro u hu; simp [strs] at hu; obtain ⟨x, _, rfl⟩ := hu; rfl
theorem Gp (w : World) (k : Nat) (os : Array Obj) : Own w [] (Sort.grow (w.drewN k) os) [] := by
 refine ⟨rfl, rfl, rfl, .inr (by simp [Sort.grow, World.drewN]), by simp [Sort.grow, World.drewN], fun i hi _ => ?_, by simp, by simp, by simp, by simp⟩
 have : (w.drewN k).heap = w.heap := rfl
 simp only [Sort.grow, this]
 rw [Array.getElem?_append_left hi]
end Go.Fl

namespace Go.Fl
open Go Go.Proofs
end Go.Fl

namespace Go.Proofs
open Go.Shelf
def Tryz.lays170_ren : Go.Shelf.Ren := ⟨fun | 170 => 44 | n => n, fun | 70 => 93 | 3 => 3 | 0 => 0 | 72 => 95 | 37 => 47 | 5 => 5 | n => n, fun | n => n⟩
theorem IA : Go.Proofs.Lays.n170 Tryz.prog Tryz.lays170_ren := {
 mixed := by kernel_rfl
 f170 := Tryz.func44.trans (congrArg some (by kernel_rfl))
 t0 := Tryz.underlying0
 a0 := Tryz.isAgg0
 z0 := Tryz.sizeOf0
 v0 := Tryz.zeroValue0
 t3 := Tryz.underlying3
 a3 := Tryz.isAgg3
 z3 := Tryz.sizeOf3
 v3 := Tryz.zeroValue3
 t37 := Rv
 a37 := Tryz.isAgg47
 z37 := Tryz.sizeOf47
 v37 := Tryz.zeroValue47
 t70 := Tryz.underlying93
 a70 := Tryz.isAgg93
 z70 := Tryz.sizeOf93
 v70 := Tryz.zeroValue93
 t72 := Tryz.underlying95
 a72 := Tryz.isAgg95
 z72 := Tryz.sizeOf95
 v72 := Tryz.zeroValue95 }
open Go.RowKit in
theorem Tryz.Builder_Len (B b : Nat) (bs : List Value) (w : World) (h : Lib.IsBuilder 95 5 B b bs w) :
  Calls Tryz.prog 44 #[.pointer (some ⟨b, 0, none⟩)] w fun e w' => e = .returned (.int .i64 bs.length) ∧ w' = w := Any.Builder_Len IA B b bs w h
def Tryz.lays169_ren : Go.Shelf.Ren := ⟨fun | 169 => 45 | n => n, fun | 70 => 93 | 9 => 9 | 0 => 0 | 72 => 95 | 37 => 47 | 127 => 152 | 3 => 3 | 5 => 5 | n => n, fun | n => n⟩
theorem IB : Go.Proofs.Lays.n169 Tryz.prog Tryz.lays169_ren := {
 mixed := by kernel_rfl
 f169 := Tryz.func45.trans (congrArg some (by kernel_rfl))
 t0 := Tryz.underlying0
 a0 := Tryz.isAgg0
 z0 := Tryz.sizeOf0
 v0 := Tryz.zeroValue0
 t3 := Tryz.underlying3
 a3 := Tryz.isAgg3
 z3 := Tryz.sizeOf3
 v3 := Tryz.zeroValue3
 t9 := Tryz.underlying9
 a9 := Tryz.isAgg9
 z9 := Tryz.sizeOf9
 v9 := Tryz.zeroValue9
 t37 := Rv
 a37 := Tryz.isAgg47
 z37 := Tryz.sizeOf47
 v37 := Tryz.zeroValue47
 t70 := Tryz.underlying93
 a70 := Tryz.isAgg93
 z70 := Tryz.sizeOf93
 v70 := Tryz.zeroValue93
 t72 := Tryz.underlying95
 a72 := Tryz.isAgg95
 z72 := Tryz.sizeOf95
 v72 := Tryz.zeroValue95
 t127 := Tryz.underlying152
 a127 := Tryz.isAgg152
 z127 := Tryz.sizeOf152
 v127 := Tryz.zeroValue152 }
theorem DG : Builder.Extra Tryz.prog Tryz.lays169_ren := {
 sizeBuilder := by kernel_rfl
 liesBuilder := by kernel_rfl
 t5 := Tryz.underlying5
 a5 := Tryz.isAgg5
 z5 := Tryz.sizeOf5
 v5 := Tryz.zeroValue5
 infoByte := by kernel_rfl
 cellsByte := by kernel_rfl
 sizeByte := by kernel_rfl
 neB5 := by decide }
open Go.RowKit in
theorem Tryz.Builder_String_any (B b : Nat) (l : List UInt8) (w : World) (h : Lib.IsBuilder 95 5 B b (Lib.byteCells l) w) (hBw : B ≤ w.heap.size) :
  Calls Tryz.prog 45 #[.pointer (some ⟨b, 0, none⟩)] w fun e w' => e = .returned (.string ⟨l.toArray⟩) ∧ Below B w w' := Any.Builder_String_any IB DG B b l w h hBw
def Tryz.lays156_ren : Go.Shelf.Ren := ⟨fun | 156 => 84 | 165 => 111 | 166 => 42 | 169 => 45 | 240 => 82 | 241 => 147 | 276 => 109 | 277 => 172 | n => n, fun | 31 => 150 | 9 => 9 | 3 => 3 | 4 => 4 | 0 => 0 | 20 => 20 | 72 => 95 | 76 => 98 | 70 => 93 | 37 => 47 | 75 => 97 | 127 => 152 | 164 => 181 | 5 => 5 | 80 => 102 | n => n, fun | n => n⟩
theorem DF : Go.Proofs.Lays.n156 Tryz.prog Tryz.lays156_ren := {
 mixed := by kernel_rfl
 f156 := Tryz.func84.trans (congrArg some (by kernel_rfl))
 f165 := Tryz.func111.trans (congrArg some (by kernel_rfl))
 f166 := Tryz.func42.trans (congrArg some (by kernel_rfl))
 f169 := Tryz.func45.trans (congrArg some (by kernel_rfl))
 f240 := Tryz.func82.trans (congrArg some (by kernel_rfl))
 f241 := Tryz.func147.trans (congrArg some (by kernel_rfl))
 f276 := Tryz.func109.trans (congrArg some (by kernel_rfl))
 f277 := Tryz.func172.trans (congrArg some (by kernel_rfl))
 t0 := Tryz.underlying0
 a0 := Tryz.isAgg0
 z0 := Tryz.sizeOf0
 v0 := Tryz.zeroValue0
 t3 := Tryz.underlying3
 a3 := Tryz.isAgg3
 z3 := Tryz.sizeOf3
 v3 := Tryz.zeroValue3
 t4 := Tryz.underlying4
 a4 := Tryz.isAgg4
 z4 := Tryz.sizeOf4
 v4 := Tryz.zeroValue4
 t9 := Tryz.underlying9
 a9 := Tryz.isAgg9
 z9 := Tryz.sizeOf9
 v9 := Tryz.zeroValue9
 t20 := Tryz.underlying20
 a20 := Tryz.isAgg20
 z20 := Tryz.sizeOf20
 v20 := Tryz.zeroValue20
 t31 := Tryz.underlying150
 a31 := Tryz.isAgg150
 z31 := Tryz.sizeOf150
 v31 := Tryz.zeroValue150
 t37 := Rv
 a37 := Tryz.isAgg47
 z37 := Tryz.sizeOf47
 v37 := Tryz.zeroValue47
 t70 := Tryz.underlying93
 a70 := Tryz.isAgg93
 z70 := Tryz.sizeOf93
 v70 := Tryz.zeroValue93
 t72 := Tryz.underlying95
 a72 := Tryz.isAgg95
 z72 := Tryz.sizeOf95
 v72 := Tryz.zeroValue95
 t75 := Tryz.underlying97
 a75 := Tryz.isAgg97
 z75 := Tryz.sizeOf97
 v75 := Tryz.zeroValue97
 t76 := Tryz.underlying98
 a76 := Tryz.isAgg98
 z76 := Tryz.sizeOf98
 v76 := Tryz.zeroValue98
 t127 := Tryz.underlying152
 a127 := Tryz.isAgg152
 z127 := Tryz.sizeOf152
 v127 := Tryz.zeroValue152
 t164 := Tryz.underlying181
 a164 := Tryz.isAgg181
 z164 := Tryz.sizeOf181
 v164 := Tryz.zeroValue181 }
theorem BN : Builder.Extra Tryz.prog Tryz.lays156_ren := {
 sizeBuilder := by kernel_rfl
 liesBuilder := by kernel_rfl
 t5 := Tryz.underlying5
 a5 := Tryz.isAgg5
 z5 := Tryz.sizeOf5
 v5 := Tryz.zeroValue5
 infoByte := by kernel_rfl
 cellsByte := by kernel_rfl
 sizeByte := by kernel_rfl
 neB5 := by decide }
open Go.RowKit in
theorem Tryz.strings_Join_none (a : Option Addr) (c : Nat) (sep : ByteArray) (w : World) :
  Calls Tryz.prog 84 #[.slice a 0 c, .string sep] w fun e w' => e = .returned (.string ⟨#[]⟩) ∧ w' = w := Any.strings_Join_none DF BN a c sep w
open Go.RowKit in
theorem Tryz.strings_Join (bk o c : Nat) (xs : List ByteArray) (sep : ByteArray) (w : World) (hcells : ∀ (j : Nat) x, xs[j]? = some x → w.cell? ⟨bk, o + j, none⟩ = some (.string x)) (hbk : bk < w.heap.size) (hN : xs.length ≤ 140737488355328) (hcap : xs.length ≤ c) (hlen : (Lib.join (xs.map (·.data.toList)) sep.data.toList).length ≤ 140737488355328) :
  Calls Tryz.prog 84 #[.slice (some ⟨bk, o, none⟩) xs.length c, .string sep] w fun e w' => e = .returned (.string ⟨(Lib.join (xs.map (·.data.toList)) sep.data.toList).toArray⟩) ∧ Below w.heap.size w w' := Any.strings_Join DF BN bk o c xs sep w hcells hbk hN hcap hlen
def Tryz.laysM171_ren : Go.Shelf.Ren := ⟨fun | 171 => 110 | 243 => 146 | 246 => 171 | 283 => 185 | 284 => 186 | 285 => 187 | 286 => 188 | 129 => 145 | 317 => 196 | 318 => 197 | 319 => 198 | 320 => 199 | 337 => 202 | 338 => 203 | n => n, fun | 3 => 3 | 9 => 9 | 2 => 2 | 4 => 4 | 171 => 256 | 0 => 0 | 53 => 221 | 37 => 47 | 5 => 5 | 173 => 258 | 212 => 265 | 51 => 219 | 20 => 20 | 213 => 266 | 46 => 180 | 232 => 267 | 233 => 268 | n => n, fun | 17 => 1 | 18 => 2 | 19 => 3 | n => n⟩
theorem Ha : Go.Proofs.LaysM.n171 Tryz.prog Tryz.laysM171_ren := {
 mixed := by kernel_rfl
 f129 := Tryz.func145.trans (congrArg some (by kernel_rfl))
 f171 := Tryz.func110.trans (congrArg some (by kernel_rfl))
 f243 := Tryz.func146.trans (congrArg some (by kernel_rfl))
 f246 := Tryz.func171.trans (congrArg some (by kernel_rfl))
 f283 := Tryz.func185.trans (congrArg some (by kernel_rfl))
 f284 := Tryz.func186.trans (congrArg some (by kernel_rfl))
 f285 := Tryz.func187.trans (congrArg some (by kernel_rfl))
 f286 := Tryz.func188.trans (congrArg some (by kernel_rfl))
 f317 := Tryz.func196.trans (congrArg some (by kernel_rfl))
 f318 := Tryz.func197.trans (congrArg some (by kernel_rfl))
 f319 := Tryz.func198.trans (congrArg some (by kernel_rfl))
 f320 := Tryz.func199.trans (congrArg some (by kernel_rfl))
 f337 := Tryz.func202.trans (congrArg some (by kernel_rfl))
 f338 := Tryz.func203.trans (congrArg some (by kernel_rfl))
 t0 := Tryz.underlying0
 a0 := Tryz.isAgg0
 z0 := Tryz.sizeOf0
 v0 := Tryz.zeroValue0
 t2 := Tryz.underlying2
 a2 := Tryz.isAgg2
 z2 := Tryz.sizeOf2
 v2 := Tryz.zeroValue2
 t3 := Tryz.underlying3
 a3 := Tryz.isAgg3
 z3 := Tryz.sizeOf3
 v3 := Tryz.zeroValue3
 t4 := Tryz.underlying4
 a4 := Tryz.isAgg4
 z4 := Tryz.sizeOf4
 v4 := Tryz.zeroValue4
 t5 := Tryz.underlying5
 a5 := Tryz.isAgg5
 z5 := Tryz.sizeOf5
 v5 := Tryz.zeroValue5
 t9 := Tryz.underlying9
 a9 := Tryz.isAgg9
 z9 := Tryz.sizeOf9
 v9 := Tryz.zeroValue9
 t20 := Tryz.underlying20
 a20 := Tryz.isAgg20
 z20 := Tryz.sizeOf20
 v20 := Tryz.zeroValue20
 t37 := Rv
 a37 := Tryz.isAgg47
 z37 := Tryz.sizeOf47
 v37 := Tryz.zeroValue47
 t46 := Tryz.underlying180
 a46 := Tryz.isAgg180
 z46 := Tryz.sizeOf180
 v46 := Tryz.zeroValue180
 t51 := Tryz.underlying219
 a51 := Tryz.isAgg219
 z51 := Tryz.sizeOf219
 v51 := Tryz.zeroValue219
 t53 := Tryz.underlying221
 a53 := Tryz.isAgg221
 z53 := Tryz.sizeOf221
 v53 := Tryz.zeroValue221
 t171 := Tryz.underlying256
 a171 := Tryz.isAgg256
 z171 := Tryz.sizeOf256
 v171 := Tryz.zeroValue256
 t173 := Tryz.underlying258
 a173 := Tryz.isAgg258
 z173 := Tryz.sizeOf258
 v173 := Tryz.zeroValue258
 t212 := Tryz.underlying265
 a212 := Tryz.isAgg265
 z212 := Tryz.sizeOf265
 v212 := Tryz.zeroValue265
 t213 := Tryz.underlying266
 a213 := Tryz.isAgg266
 z213 := Tryz.sizeOf266
 t232 := Tryz.underlying267
 a232 := Tryz.isAgg267
 z232 := Tryz.sizeOf267
 v232 := Tryz.zeroValue267
 t233 := Tryz.underlying268
 a233 := Tryz.isAgg268
 z233 := Tryz.sizeOf268
 v233 := Tryz.zeroValue268
 g17 := by kernel_rfl
 g18 := by kernel_rfl
 g19 := by kernel_rfl
 i0 := by kernel_rfl
 i2 := by kernel_rfl
 i3 := by kernel_rfl
 i4 := by kernel_rfl
 i5 := by kernel_rfl
 i9 := by kernel_rfl
 i20 := by kernel_rfl
 i37 := by kernel_rfl
 i46 := by kernel_rfl
 i51 := by kernel_rfl
 i53 := by kernel_rfl
 i171 := by kernel_rfl
 i173 := by kernel_rfl
 i212 := by kernel_rfl
 i232 := by kernel_rfl
 i233 := by kernel_rfl
 m17 := by kernel_rfl
 m18 := by kernel_rfl
 m19 := by kernel_rfl }
open Go.RowKit Go.Sort Go.Lib in
theorem Tryz.strconv_Itoa (n : Int) (h0 : -9223372036854775808 ≤ n) (h1 : n ≤ 9223372036854775807) (w : World) (htab : Lib.TabIs Tryz.prog w "internal/strconv.uint64pow10" .u64 Lib.pow10Tab) :
  Calls Tryz.prog 110 #[.int .i64 n] w fun e w' => e = .returned (.string ⟨(Lib.itoa n).toArray⟩) ∧ ∃ k os, w' = grow (w.drewN k) os := Any.strconv_Itoa Ha n h0 h1 w htab
def Tryz.lays112_ren : Go.Shelf.Ren := ⟨fun | 112 => 53 | n => n, fun | 28 => 44 | 3 => 3 | 4 => 4 | 0 => 0 | n => n, fun | n => n⟩
theorem E3 : Go.Proofs.Lays.n112 Tryz.prog Tryz.lays112_ren := {
 mixed := by kernel_rfl
 f112 := Tryz.func53.trans (congrArg some (by kernel_rfl))
 t0 := Tryz.underlying0
 a0 := Tryz.isAgg0
 z0 := Tryz.sizeOf0
 v0 := Tryz.zeroValue0
 t3 := Tryz.underlying3
 a3 := Tryz.isAgg3
 z3 := Tryz.sizeOf3
 v3 := Tryz.zeroValue3
 t4 := Tryz.underlying4
 a4 := Tryz.isAgg4
 z4 := Tryz.sizeOf4
 v4 := Tryz.zeroValue4
 t28 := Rt
 a28 := Tryz.isAgg44
 z28 := Tryz.sizeOf44
 v28 := Tryz.zeroValue44 }
open Go.RowKit Go.Lib Go.Sort in
theorem Tryz.slices_Reverse_int (blk off cap : Nat) (zs : List Int) (w : World) (hH : Holds (Value.int .i64) w blk off zs.toArray) (hsz : zs.length ≤ 9223372036854775807) :
  Calls Tryz.prog 53 #[.slice (some ⟨blk, off, none⟩) zs.length cap] w fun e w' => e = .returned (.tuple #[]) ∧ ∃ n, w' = putRow (Value.int .i64) (Sort.ahead w n) blk off zs.reverse.toArray := Any.slices_Reverse_int E3 blk off cap zs w hH hsz
open Go.RowKit Go.Lib Go.Sort in
theorem Tryz.slices_Reverse_int_empty (a : Option Addr) (cap : Nat) (w : World) :
  Calls Tryz.prog 53 #[.slice a 0 cap] w fun e w' => e = .returned (.tuple #[]) ∧ w' = w := Any.slices_Reverse_int_empty E3 a cap w
def Tryz.laysNm215_ren : Go.Shelf.Ren := ⟨fun | 15 => 52 | n => n, fun | 22 => 44 | 3 => 3 | 4 => 4 | n => n, fun | n => n⟩
theorem CU : Go.Proofs.Lays2.n15 Tryz.prog Tryz.laysNm215_ren := {
 mixed := by kernel_rfl
 f15 := Tryz.func52.trans (congrArg some (by kernel_rfl))
 t3 := Tryz.underlying3
 a3 := Tryz.isAgg3
 z3 := Tryz.sizeOf3
 v3 := Tryz.zeroValue3
 t4 := Tryz.underlying4
 a4 := Tryz.isAgg4
 z4 := Tryz.sizeOf4
 v4 := Tryz.zeroValue4
 t22 := Rt
 a22 := Tryz.isAgg44
 z22 := Tryz.sizeOf44
 v22 := Tryz.zeroValue44
 i3 := by kernel_rfl }
open Go.RowKit Go.Lib in
theorem Tryz.slices_Clone_int (b off n c : Nat) (zs : List Int) (w : World) (hz : n ≤ zs.length) (hbig : n * 8 ≤ 140737488355328) (hc : ∀ j, j < zs.length → w.cell? ⟨b, off + j, none⟩ = some (.int .i64 (zs.getD j 0))) :
  Calls Tryz.prog 52 #[.slice (some ⟨b, off, none⟩) n c] w fun e w' => ∃ v', e = .returned v' ∧ w'.ownsRow w.heap.size 3 1 v' n ((zs.take n).map (Value.int .i64)) ∧ v' ≠ .slice none 0 0 ∧ Below w.heap.size w w' := Any.slices_Clone_int CU b off n c zs w hz hbig hc
open Go.RowKit Go.Lib in
theorem Tryz.slices_Clone_int_nil (n c : Nat) (w : World) :
  Calls Tryz.prog 52 #[.slice none n c] w fun e w' => e = .returned (.slice none 0 0) ∧ w' = w := Any.slices_Clone_int_nil CU n c w
open Go.RowKit Go.Lib in
theorem Tryz.slices_Clone_int_zero (a : Addr) (c : Nat) (w : World) :
  Calls Tryz.prog 52 #[.slice (some a) 0 c] w fun e w' => ∃ v', e = .returned v' ∧ w'.ownsRow w.heap.size 3 1 v' 0 [] ∧ v' ≠ .slice none 0 0 ∧ Below w.heap.size w w' := Any.slices_Clone_int_zero CU a c w
open Go.RowKit in
theorem Tryz.Builder_WriteString (B b : Nat) (bs : List Value) (s : ByteArray) (w : World) (h : Lib.IsBuilder 95 5 B b bs w) (hlen : bs.length + s.size ≤ 140737488355328) (hBw : B ≤ w.heap.size) :
  Calls Tryz.prog 42 #[.pointer (some ⟨b, 0, none⟩), .string s] w fun e w' => e = .returned (.tuple #[.int .i64 s.size, .nilIface]) ∧ (Lib.BuilderAt 95 5 B b (.pointer (some ⟨b, 0, none⟩)) (bs ++ Lib.strCells s) w' ∧ Below B w w') :=
 Any.Builder_WriteString { DF with } BN B b bs s w h hlen hBw
end Go.Proofs

namespace Go.Fl
open Go Go.Proofs
def Pow (w : World) : Prop := Lib.TabIs Tryz.prog w "internal/strconv.uint64pow10" .u64 Lib.pow10Tab
theorem Pow.keep0 {w0 w : World} {L : List Chunk} (h : Pow w0) (hw : Own w0 [] w L) : Pow w := by
 unfold Pow Lib.TabIs World.var? at *
 cases hg : Tryz.prog.globalNamed "internal/strconv.uint64pow10" with
 | none => rw [hg] at h; cases h
 | some g =>
  rw [hg] at h
  simp only [Option.bind_some] at h ⊢
  have hlt : g < w0.heap.size := by
   rcases Nat.lt_or_ge g w0.heap.size with h1 | h1
   ·exact h1
   rw [Array.getElem?_eq_none h1] at h; cases h
  rw [hw.old g hlt (by simp)]; exact h
theorem Kz {a : Int} {w : World} (ha : I64 a) (hp : Pow w) : Calls Tryz.prog 110 #[.int .i64 a] w (Ret w [] fun v L => L = [] ∧ v = str (Lib.itoa a)) := by
 refine (Tryz.strconv_Itoa a ha.1 ha.2 w hp).mono ?_
 rintro e w' ⟨rfl, k, os, rfl⟩
 exact ⟨_, [], rfl, ⟨rfl, rfl⟩, Gp w k os⟩
theorem J9 {a : Int} {w : World} (ha : I64 a) (hp : Pow w) : Calls Tryz.prog 83 #[.int .i64 a] w (Ret w [] fun v L => L = [] ∧ v = str (Lib.itoa a)) := by
 refine Ao (args := [_]) (L := []) Tryz.func83 rfl Tryz.ntmps83 rfl (Own.start _ _) ?_
 refine Zs ?_
 refine Za ?_
 refine Zx <| Zs ?_
 refine Zm ?_
 refine Seq.rel0 rfl rfl (Am QV rfl rfl rfl (fun w hw => Kz ha (hp.keep0 hw))) ?_
 rintro _ rfl
 refine Za ?_
 refine Zx <| DC.ret ?_
 refine Zh ?_
 exact ⟨rfl, rfl⟩
theorem Jo {c : Nat} {w : World} : Calls Tryz.prog 84 #[.slice none 0 c, str [32]] w (Ret w [] fun v L => L = [] ∧ v = str []) := by
 refine (Tryz.strings_Join_none none c _ w).mono ?_
 rintro e w' ⟨rfl, rfl⟩
 exact ⟨_, [], rfl, ⟨rfl, rfl⟩, Own.start _ _⟩
theorem Jn {g c t : Nat} {xs : List (List UInt8)} {sp : List Value} {w : World} (hb : w.heap[g]? = some (.cells (strs xs ++ sp).toArray t (0, 0))) (hN : xs.length ≤ 140737488355328) (hc : xs.length ≤ c) (hl : (Lib.join xs [32]).length ≤ 140737488355328) :
  Calls Tryz.prog 84 #[.slice (some ⟨g, 0, none⟩) xs.length c, str [32]] w (Ret w [] fun v L => L = [] ∧ v = str (Lib.join xs [32])) := by
 have e1 : (xs.map fun l => (⟨l.toArray⟩ : ByteArray)).map (·.data.toList) = xs := by rw [List.map_map]; exact List.map_id'' (fun _ => rfl) xs
 have h := Tryz.strings_Join g 0 c (xs.map fun l => (⟨l.toArray⟩ : ByteArray)) ⟨[32].toArray⟩ w ?_ ?_ (by simpa using hN) (by simpa using hc) (by rw [e1]; exact hl)
 ·rw [e1] at h
  simp only [List.length_map] at h
  refine h.mono ?_
  rintro e w' ⟨rfl, hbl⟩
  exact ⟨_, [], rfl, ⟨rfl, rfl⟩, own_below hbl⟩
 ·intro j x hj
  simp only [List.getElem?_map, Option.map_eq_some_iff] at hj
  obtain ⟨l, hl, rfl⟩ := hj
  rw [cell_of_row w g _ _ t (0, 0) hb]
  have : j < xs.length := (Q9.1 hl).1
  rw [Q8 this] at hl; cases hl
  simp [strs, List.getElem?_append, this, str]
 exact (Rp.1 hb).1
theorem Ky {xs : List (List UInt8)} {v : Value} {w0 w : World} {K : List Nat} {F : List Chunk} (hO : Own w0 K w (slc v 9 1 (strs xs) :: F)) (hN : xs.length ≤ 140737488355328) (hl : (Lib.join xs [32]).length ≤ 140737488355328) :
  Calls Tryz.prog 84 #[v, str [32]] w (Ret w [] fun v L => L = [] ∧ v = str (Lib.join xs [32])) := by
 rcases BR hO with ⟨rfl, e2, _⟩ | ⟨g, len, cap', sp, rfl, e2, e3, e4, e5, hO'⟩
 ·have e3 : xs = [] := by simpa [strs] using e2
  subst e3; exact Jo
 have e6 : len = xs.length := by simpa [strs] using e2.symm
 subst e6
 exact Jn (hO'.holds _ (Ri ..)) hN e3 hl
structure LineI where
 i : Nat
 v : Value
theorem CQ {ns : List Int} {v : Value} {w : World} (hv : SlV w v ns) (hi : ∀ a, a ∈ ns → I64 a) (hp : Pow w) (hl : ns.length ≤ 2199023255552) :
  Calls Tryz.prog 43 #[v] w (Ret w [] fun v L => L = [] ∧ v = str (lineB ns)) := by
 obtain ⟨A, cap, rfl, hr, hlc, hcm, hle⟩ := hv
 refine Ao (args := [_]) (L := []) Tryz.func43 rfl Tryz.ntmps43 rfl (Own.start _ _) ?_
 refine Zs ?_
 refine Za ?_
 refine Zx <| Zs ?_
 refine Za ?_
 refine Zx <| DC.seq <| Zs ?_
 refine Zm ?_
 refine Zn Rt ?_
 refine Zm ?_
 refine Zx <| DC.block ?_
 refine DC.own (fun w hw => AU (t := 9) (m := 1) hw) ?_
 refine DC.loop (ι := LineI) (fun j => j.i ≤ ns.length)
  (fun j => [(3, j.v), (6, .slice A ns.length cap), (7, .int .i64 ns.length), (8, .int .i64 j.i)])
  (fun j => [slc j.v 9 1 (strs ((ns.take j.i).map Lib.itoa))]) (fun j => ns.length - j.i) ⟨0, .slice none 0 0⟩ (Nat.zero_le _) ⟨rfl, rfl, rfl, rfl, trivial⟩ (.cons 0 rfl .nil) ?_
 rintro ⟨i, v3⟩ hi'
 dsimp only at hi' ⊢
 refine Zs ?_
 refine Zc ?_
 refine Zx <| DC.seq ?_
 refine Zd (fun c3 => ?_) fun c3 => ?_
 ·have hlt : i < ns.length := by simpa using c3
  obtain ⟨x, hx⟩ : ∃ x, ns[i]? = some x := ⟨_, Q8 hlt⟩
  obtain ⟨ad, rfl, hcx⟩ := hr.int hx
  have hxi : I64 x := hi x (Rc hx)
  refine DC.skip <| Fin.then <| DC.seq <| DC.block <| Zs ?_
  refine Zi Rt AN ?_
  refine Zu (Ak rfl rfl AJ (AY hcx)) ?_
  refine Za ?_
  refine Zx <| DC.region ?_
  iterate 2 refine Zm ?_
  refine Seq.rel0 rfl rfl (Am en83 rfl rfl rfl (fun w hw => J9 hxi (hp.keep0 hw))) ?_
  rintro _ rfl
  refine Zw (AM (cs := #[_]) rfl rfl Tryz.underlying150 sz9 ze9 rfl (by decide) (by decide) rfl rfl) fun g15 => ?_
  refine Seq.gen rfl rfl (AR rfl rfl rfl Tryz.underlying150 sz9 by9 ze9 rfl (by decide) (by decide) (fun w hw => hw.pick (.cons 1 rfl .nil)) (.inl ⟨_, _, rfl, Ai rfl⟩) rfl (MW [Lib.itoa x]) (by simp; omega)) ?_
  rintro v16 _ rfl
  refine Za ?_
  refine Seq.nil <| Fin.inBlock <| Fin.then <| DC.region ?_
  refine Zp ?_
  refine Zm ?_
  refine Seq.nil ?_
  refine Fin.again ⟨i + 1, v16⟩ (by dsimp only; omega) (by dsimp only; omega) ⟨rfl, rfl, rfl, rfl, trivial⟩ (.cons' 0 rfl (by rw [List.take_add_one, hx]; simp [strs]) .nil)
 refine DC.exit <| Ad <| Ad <| Ag <| Fin.then <| DC.seq ?_
 have hin : i = ns.length := by simp at c3; omega
 subst hin
 simp only [List.take_length]
 have hjl := GA (k := 20) (ns.map Lib.itoa) (by simp; intro a ha; exact Jp (hi a ha))
 simp only [List.length_map] at hjl
 refine DC.region ?_
 refine Zm ?_
 refine Seq.rel0 rfl rfl (Am en84 rfl rfl rfl (fun w hw => Ky hw (by simp; omega) (by omega))) ?_
 rintro _ rfl
 refine Zo (Gj (a := Lib.join (ns.map Lib.itoa) [32]) (b := [10]) rfl rfl rfl (by simp; omega)) ?_
 refine Za ?_
 refine Zx <| DC.ret ?_
 refine Fin.weak (E' := [(2, _)]) ⟨rfl, trivial⟩ .nil ?_
 refine Zh ?_
 exact ⟨rfl, rfl⟩
/-- A builder in block b, its buffer v, that holds these bytes. -/
def bldr (b : Nat) (v : Value) (bs : List UInt8) : Chunk :=
 ⟨b :: v.ownBlock.toList, fun w => ∃ p, (p = .pointer none ∨ p = .pointer (some ⟨b, 0, none⟩)) ∧ w.heap[b]? = some (.cells #[p, v] 95 (0, 0)) ∧
   w.ownsRow b 5 1 v (Lib.byteCells bs).length (Lib.byteCells bs) ∧ v.ownBlock ≠ some b,
  fun w w' h hh => by
   obtain ⟨p, h1, h2, h3, h4⟩ := hh
   exact ⟨p, h1, (h b (Ri ..)).trans h2, Gn h3 fun g hg => h g (by rw [hg]; simp), h4⟩⟩
theorem FZ {b : Nat} {v : Value} {bs : List UInt8} {w : World} (h : (bldr b v bs).holds w) : Lib.IsBuilder 95 5 b b (Lib.byteCells bs) w := by
 obtain ⟨p, rfl | rfl, h2, h3, h4⟩ := h
 ·exact .inl ⟨Nat.le_refl _, v, h2, h3, h4⟩
 exact .inr ⟨Nat.le_refl _, v, h2, h3, h4⟩
section
variable {w0 w w' : World} {K : List Nat} {n : Nat} {ds : List Deferred} {E : Env} {L F : List Chunk} {o : Oper} {x : Operand} {v : Value} {b : Nat} {bs s : List UInt8}
theorem I6 (hw : Own w0 K w (blk b 95 #[.pointer none, .slice none 0 0] :: F)) : Own w0 K w (bldr b (.slice none 0 0) [] :: F) :=
 FM (c' := bldr b (.slice none 0 0) []) (by rfl) (fun w hh => ⟨_, .inl rfl, hh, ⟨rfl, .inl ⟨rfl, rfl⟩⟩, by simp [Value.ownBlock]⟩) hw
/-- What a call on a builder leaves: the builder LR. -/
theorem Hp (hw : Own w0 [] w (bldr b v bs :: F)) (hb : RowKit.Below b w w') {v' : Value} (h : (bldr b v' s).holds w') : Own w0 [] w' [bldr b v' s] := by
 have hbf : w0.heap.size ≤ b := by
  rcases hw.fresh b (by simp [bldr]) with h1 | h1
  ·simp at h1
  exact h1
 obtain ⟨p, h1, h2, h3, h4⟩ := h
 refine ⟨hb.os.trans hw.os, hb.tape.trans hw.tape, hb.output.trans hw.output, .inl trivial, Nat.le_trans hw.size hb.size, fun k hk hn => ?_, ?_, fun g hg => .inr ?_, fun g hg => ?_, fun c hc => ?_⟩
 ·rw [hb.block k (by omega)]; exact hw.old k hk hn
 ·simp only [idsOf_cons, idsOf_nil, List.append_nil, bldr, List.nodup_cons]
  refine ⟨fun hm => h4 (by simpa [eq_comm] using hm), ?_⟩
  cases v'.ownBlock <;> simp
 ·simp only [idsOf_cons, idsOf_nil, List.append_nil, bldr, List.mem_cons] at hg
  rcases hg with rfl | hg
  ·exact hbf
  have := (h3.lt g (by simpa [eq_comm] using hg)).1; omega
 ·simp only [idsOf_cons, idsOf_nil, List.append_nil, bldr, List.mem_cons] at hg
  rcases hg with rfl | hg
  ·exact (Rp.1 h2).1
  exact (h3.lt g (by simpa [eq_comm] using hg)).2
 simp at hc; subst hc
 exact ⟨p, h1, h2, h3, h4⟩
theorem Ng (hw : Own w0 [] w (bldr b v bs :: F)) (hb : RowKit.Below b w w') : Own w0 [] w' [] := by
 have hbf : w0.heap.size ≤ b := by
  rcases hw.fresh b (by simp [bldr]) with h1 | h1
  ·simp at h1
  exact h1
 exact ⟨hb.os.trans hw.os, hb.tape.trans hw.tape, hb.output.trans hw.output, .inl trivial, Nat.le_trans hw.size hb.size, fun k hk hn => (hb.block k (by omega)).trans (hw.old k hk hn), by simp, by simp, by simp, by simp⟩
theorem Ey (h : (bldr b v bs).holds w) : Calls Tryz.prog 44 #[.pointer (some ⟨b, 0, none⟩)] w (Ret w [] fun u L => L = [] ∧ u = .int .i64 bs.length) := by
 refine (Tryz.Builder_Len b b _ w (FZ h)).mono ?_
 rintro e w' ⟨rfl, rfl⟩
 exact ⟨_, [], rfl, ⟨rfl, by rw [Lib.byteCells_length]⟩, Own.start _ _⟩
theorem Ie {ts : Array Nat} {xs : Array Operand} (ho : o.op = .call ⟨.value x, xs, ts⟩) (hx : ev n E x = some (.func (.func 42) #[] #[]))
  (hxs : evs n E xs.toList = some [.pointer (some ⟨b, 0, none⟩), str s]) (hL : ∀ w, Own w0 [] w L → Own w0 [] w (bldr b v bs :: F)) (hl : bs.length + s.length ≤ 140737488355328) :
  Gen Tryz.prog w0 [] n ds E L o (fun u M => ∃ v', M = [bldr b v' (bs ++ s)]) := by
 intro a w ha hw
 have hw1 := hL w hw
 have hh := hw1.holds _ (Ri ..)
 unfold RunsTo
 rw [C6 Qn ho ha hx hxs]
 have hlt := hw1.lt b (by simp [bldr])
 refine Calls.mono (Tryz.Builder_WriteString b b _ ⟨s.toArray⟩ w (FZ hh) (by rw [Lib.byteCells_length]; simpa [ByteArray.size] using hl) (by omega)) ?_
 rintro e w' ⟨rfl, ⟨_, v', h1, h2, h3⟩, hb⟩
 have e1 : Lib.strCells ⟨s.toArray⟩ = Lib.byteCells s := rfl
 rw [e1, ← Lib.byteCells_append] at h2
 exact ⟨_, rfl, _, ⟨v', rfl⟩, Hp hw1 hb ⟨_, .inr rfl, h1, h2, h3⟩⟩
theorem Jy {ts : Array Nat} {xs : Array Operand} (ho : o.op = .call ⟨.value x, xs, ts⟩) (hx : ev n E x = some (.func (.func 45) #[] #[]))
  (hxs : evs n E xs.toList = some [.pointer (some ⟨b, 0, none⟩)]) (hL : ∀ w, Own w0 [] w L → Own w0 [] w (bldr b v bs :: F)) :
  Gen Tryz.prog w0 [] n ds E L o (fun u M => u = str bs ∧ M = []) := by
 intro a w ha hw
 have hw1 := hL w hw
 have hh := hw1.holds _ (Ri ..)
 unfold RunsTo
 rw [C6 en45 ho ha hx hxs]
 have hlt := hw1.lt b (by simp [bldr])
 refine Calls.mono (Tryz.Builder_String_any b b bs w (FZ hh) (by omega)) ?_
 rintro e w' ⟨rfl, hb⟩
 exact ⟨_, rfl, _, ⟨rfl, rfl⟩, Ng hw1 hb⟩
end
end Go.Fl

namespace Go.Fl
open Go Go.Proofs
theorem Fits.i64 {a : Int} (h : Fits a) : I64 a := by unfold Fits at h; unfold I64; omega
theorem Pe {ls : List (List Int)} (hs : ∀ l, l ∈ ls → l.length ≤ 2097152) : ∀ l, l ∈ ls → l.length ≤ 33554432 := fun l hl => by have := hs l hl; omega
theorem Ji {ls : List (List Int)} {v : Value} {w : World} {i : Nat} {l : List Int} (hv : LsV w v ls) (hl : ls[i]? = some l) (hi : ∀ a, a ∈ l → I64 a) (hp : Pow w) (hf : l.length ≤ 2199023255552) :
  Calls Tryz.prog 48 #[.iface 153 v, .int .i64 i] w (Ret w [] fun v L => L = [] ∧ v = str (lineB l)) := by
 obtain ⟨A, cap, rfl, hr, hlc, hcm, hle⟩ := hv
 have hlt := (Q9.1 hl).1
 obtain ⟨ad, lv, rfl, hc, hs⟩ := hr i l hl
 refine Ao (args := [_, _]) (L := []) Tryz.func48 rfl Tryz.ntmps48 rfl (Own.start _ _) ?_
 refine Zs ?_
 refine Za ?_
 refine Zx <| DC.seq <| Zs ?_
 refine Zm ?_
 refine Zx <| DC.block <| Zs ?_
 refine Zo (CA (v := .tuple #[.slice (some ad) ls.length cap, .bool true]) rfl rfl (fun w => by kernel_rfl)) ?_
 iterate 2 refine Ze ?_
 refine Zx ?_
 refine AG rfl ?_
 refine Zs ?_
 refine Za ?_
 refine Zx <| Zs ?_
 iterate 2 refine Zm ?_
 refine Zi Tryz.underlying153 Cn ?_
 refine Zu (Ak rfl rfl BS (AY hc)) ?_
 refine Seq.rel0 rfl rfl (Am NL rfl rfl rfl (fun w hw => CQ (hs.keep0 hw) hi (hp.keep0 hw) hf)) ?_
 rintro _ rfl
 refine Za ?_
 refine Zx <| DC.ret <| Ae <| Aa ?_
 refine Zh ?_
 exact ⟨rfl, rfl⟩
theorem Jj {es : List Pr} {v : Value} {w : World} {i : Nat} {e : Pr} (hv : PrV w v es) (he : es[i]? = some e) (h1 : I64 e.1) (h2 : I64 e.2) (hp : Pow w) :
  Calls Tryz.prog 48 #[.iface 154 v, .int .i64 i] w (Ret w [] fun v L => L = [] ∧ v = str (lineB [e.1, e.2])) := by
 obtain ⟨A, cap, rfl, hr, hlc, hcm, hle⟩ := hv
 have hlt := (Q9.1 he).1
 obtain ⟨ad, rfl, hU, hV⟩ := hr.pair he
 refine Ao (args := [_, _]) (L := []) Tryz.func48 rfl Tryz.ntmps48 rfl (Own.start _ _) ?_
 refine Zs ?_
 refine Za ?_
 refine Zx <| DC.seq <| Zs ?_
 refine Zm ?_
 refine Zx <| DC.block <| Zs ?_
 refine Zo (CA (v := .tuple #[.slice none 0 0, .bool false]) rfl rfl (fun w => by kernel_rfl)) ?_
 iterate 2 refine Ze ?_
 refine Zx ?_
 refine Ba rfl ?_
 refine Zs ?_
 refine Zo (CA (v := .tuple #[.slice (some ad) es.length cap, .bool true]) rfl rfl (fun w => by kernel_rfl)) ?_
 iterate 2 refine Ze ?_
 refine Zx ?_
 refine AG rfl ?_
 refine Zs ?_
 refine Za ?_
 refine Zx <| DC.seq ?_
 refine AC (cl := [.q, .q, .q, .q, .v, .q, .q, .q, .q, .v, .n, .r, .q]) (A := [0, 0, 3, 7, 15, 0, 0, 96, 224, 480, 1023, 2047, 4095]) (order := [0, 1, 2, 3, 4, 5, 6, 7, 8, 9, 10, 11, 12]) [] mixed (by kernel_rfl) (fun w hw => hw.pick .nil) ?_
 iterate 2 refine Ym ?_
 refine Yo rfl (AT rfl rfl rfl Tryz.underlying154 AP (by omega) (by omega) (by first | exact Az _ _ | exact AS _ _ _ | rfl)) ?_
 refine Yf Bf ?_
 refine Ar rfl rfl rfl rfl (Ak rfl rfl AJ (AY (by rw [Q5]; exact hU))) ?_
 iterate 2 refine Ym ?_
 refine Yo rfl (AT rfl rfl rfl Tryz.underlying154 AP (by omega) (by omega) (by first | exact Az _ _ | exact AS _ _ _ | rfl)) ?_
 refine Yf Bv ?_
 refine Ar rfl rfl rfl rfl (Ak rfl rfl AJ (AY (by rw [F0 _ _ _ (by decide)]; exact hV))) ?_
 refine Be rfl rfl rfl rfl (AM (cs := #[_, _]) rfl rfl Rt AN Cg rfl (by decide) (by decide) rfl rfl) fun g29 => ?_
 refine CW (V := [blk g29 3 #[.int .i64 e.1, .int .i64 e.2]]) rfl rfl rfl rfl (by kernel_rfl) (Am NL rfl rfl rfl (fun w hw => CQ (ns := [e.1, e.2]) (B2 (g := g29) hw rfl rfl (by decide)) (by simp; exact ⟨h1, h2⟩) (hp.keep0 hw) (by simp))) ?_
 rintro _ rfl
 refine Yo rfl (AF rfl rfl) ?_
 refine Flow.end rfl ?_
 simp only [zq, zr]
 refine Fin.then <| DC.ret <| Ae <| Aa ?_
 refine Fin.weak (E' := [(4, _)]) ⟨rfl, trivial⟩ .nil ?_
 refine Zh ?_
 exact ⟨rfl, rfl⟩
/-- What a form of a certificate says: its letter, the most lines, whether its text may be written, its lines. -/
structure FormC (w0 : World) (T : Nat) (v : Value) (letter : List UInt8) (lim : Int) (ok : Prop) (lines : List (List UInt8)) : Prop where
 head : ∀ w L, Own w0 [] w L → Calls Tryz.prog 47 #[.iface T v] w (Ret w [] fun r L => L = [] ∧ ∃ b, r = .tuple #[str letter, .int .i64 lim, .bool b] ∧ (b = true ↔ ok))
 meth : ∃ fm, Ent Tryz.prog fm ∧ (∀ w, (method (Tryz.prog.types.size + Made.depth) T v "tangram/cert.lines").run Tryz.prog w = .ok (fm, v) w) ∧ ∀ w, Calls Tryz.prog fm #[v] w (Ret w [] fun r L => L = [] ∧ r = .int .i64 lines.length)
 line : ok → ∀ (i : Nat) l, lines[i]? = some l → ∀ w L, Own w0 [] w L → Calls Tryz.prog 48 #[.iface T v, .int .i64 i] w (Ret w [] fun r L => L = [] ∧ r = str l)
 few : lines.length ≤ 17592186044416
 one : letter.length = 1
 small : ok → ∀ l, l ∈ lines → l.length ≤ 1099511627776
def headB (letter : List UInt8) (n : Nat) : List UInt8 := (letter ++ [32]) ++ lineB [(n : Int)]
def textB (letter : List UInt8) (lines : List (List UInt8)) : List UInt8 := headB letter lines.length ++ lines.flatten
theorem Eb {letter : List UInt8} {n : Nat} (h1 : letter.length = 1) (hn : n ≤ 17592186044416) : (headB letter n).length ≤ 100 := by
 have := Cr (ns := [(n : Int)]) (by simp; unfold I64; omega)
 simp [headB, h1] at this ⊢; omega
theorem Dv {l : List (List UInt8)} {i : Nat} {x : List UInt8} (h : l[i]? = some x) : (l.take (i + 1)).flatten = (l.take i).flatten ++ x := by
 rw [List.take_add_one, h]; simp
theorem KD (l : List (List UInt8)) (i : Nat) : (l.take i).flatten.length ≤ l.flatten.length := by
 conv => rhs; rw [← List.take_append_drop i l]
 rw [List.flatten_append, List.length_append]; omega
structure PrintI where
 i : Nat
 v : Value
theorem Gh {c v : Value} {w : World} {T : Nat} {is : Bool} {letter : List UInt8} {lim : Int} {ok : Prop} {lines : List (List UInt8)} {cs : Array Value} (hc : c = .agg cs) (hcs : ∃ x y z, cs = #[x, y, z] ∧ x.oneCell' = true ∧ y.oneCell' = true ∧ z.oneCell' = true)
  (hfo : ∀ w, Calls Tryz.prog 46 #[c] w (Ret w [] fun r L => L = [] ∧ r = .tuple #[.iface T v, .bool is])) (hF : FormC w T v letter lim ok lines) (hp : Pow w) :
  Calls Tryz.prog 24 #[c] w (Ret w [] fun r L => L = [] ∧ ∃ s e, r = .tuple #[str s, .int .i64 e] ∧
   ((e = 0 ∧ is = true ∧ ok ∧ (textB letter lines).length ≤ 33554432 ∧ s = textB letter lines) ∨ (e = 170 ∧ ¬ (is = true ∧ ok) ∧ s = []) ∨ (e = 10 ∧ is = true ∧ ok ∧ 33554432 < (textB letter lines).length ∧ s = []))) := by
 subst hc
 obtain ⟨x, y, z, rfl, x1, y1, z1⟩ := hcs
 obtain ⟨fm, hfm, hme, hln⟩ := hF.meth
 have hfew := hF.few
 have hhl := Eb hF.one hfew
 refine Ao (args := [_]) (L := []) Tryz.func24 rfl Tryz.ntmps24 rfl (Own.start _ _) ?_
 refine Zs ?_
 refine Zw (AX (cs := #[x, y, z]) rfl rfl (N1 x1 y1 z1)) fun g1 => ?_
 iterate 2 refine Za ?_
 refine Zx <| Zs ?_
 refine Zu (Aq (vs := [_, _, _]) rfl rfl B7 BA rfl (Ai rfl)) ?_
 refine Seq.rel0 rfl rfl (Am en46 rfl rfl rfl (fun w hw => hfo w)) ?_
 rintro _ rfl
 refine Zm ?_
 iterate 2 refine Ze ?_
 iterate 2 refine Za ?_
 refine Zx <| DC.seq <| Zs ?_
 refine Zm ?_
 refine Zo (Bb rfl rfl) ?_
 refine Zx ?_
 refine Zd (fun c2 => ?_) fun c2 => ?_
 ·refine Zs ?_
  iterate 2 refine Za ?_
  refine Zx <| DC.ret <| Aa ?_
  refine Fin.weak (E' := [(2, _), (3, _)]) ⟨rfl, rfl, trivial⟩ .nil ?_
  refine AI (.inl rfl) rfl rfl rfl ?_
  exact ⟨rfl, [], 170, rfl, .inr (.inl ⟨rfl, by simp at c2; simp [c2], rfl⟩)⟩
 refine DC.skip <| Fin.then <| Zs ?_
 refine Zm ?_
 refine Seq.rel0 rfl rfl (Am en47 rfl rfl rfl (fun w hw => hF.head w _ hw)) ?_
 rintro _ ⟨b, rfl, hb⟩
 refine Zm ?_
 iterate 3 refine Ze ?_
 iterate 3 refine Za ?_
 refine Zx <| DC.seq <| Zs ?_
 refine Zm ?_
 refine Zo (Bb rfl rfl) ?_
 refine Zx ?_
 refine Zd (fun c5 => ?_) fun c5 => ?_
 ·refine Zs ?_
  iterate 2 refine Za ?_
  refine Zx <| DC.ret <| Aa ?_
  refine Fin.weak (E' := [(2, _), (3, _)]) ⟨rfl, rfl, trivial⟩ .nil ?_
  refine AI (.inl rfl) rfl rfl rfl ?_
  exact ⟨rfl, [], 170, rfl, .inr (.inl ⟨rfl, by simp at c5; simp [← hb, c5], rfl⟩)⟩
 refine DC.skip <| Fin.then <| Zs ?_
 refine Zw (Ay rfl PJ rfl) fun g9 => ?_
 refine Zx <| Zs ?_
 refine Zm ?_
 refine Zo (Gj (a := letter) (b := [32]) rfl rfl rfl (by rw [hF.one]; decide)) ?_
 refine Zm ?_
 refine Seq.rel rfl rfl (I3 hfm rfl rfl hme (fun w hw => hln w)) ?_
 rintro _ _ ⟨rfl, rfl⟩
 refine Zw (AM (cs := #[_]) rfl rfl Rt AN Cg rfl (by decide) (by decide) rfl rfl) fun g30 => ?_
 refine Seq.rel0 rfl rfl (Am NL rfl rfl rfl (fun w hw => CQ (ns := [(lines.length : Int)]) (B2 (g := g30) hw rfl rfl (by decide)) (by simp; unfold I64; omega) (hp.keep0 hw) (by simp))) ?_
 rintro _ rfl
 refine Zo (Gj (a := letter ++ [32]) (b := lineB [(lines.length : Int)]) rfl rfl rfl (by have := hhl; simp [headB] at this ⊢; omega)) ?_
 refine Seq.gen rfl rfl (Ie rfl rfl rfl (fun w hw => I6 (hw.pick (.cons 1 rfl .nil))) (by have := hhl; simp [headB] at this ⊢; omega)) ?_
 rintro _ _ ⟨v9, rfl⟩
 refine Zx <| DC.seq <| Zs ?_
 refine Zm ?_
 refine Seq.rel rfl rfl (I3 hfm rfl rfl hme (fun w hw => hln w)) ?_
 rintro _ _ ⟨rfl, rfl⟩
 refine Zm ?_
 refine Zx <| DC.block ?_
 have hc2 : is = true := by simpa using c2
 have hc5 : ok := hb.1 (by simpa using c5)
 refine DC.loop (ι := PrintI) (fun j => j.i ≤ lines.length ∧ (headB letter lines.length ++ (lines.take j.i).flatten).length ≤ 33554432)
  (fun j => [(4, .iface T v), (9, .pointer (some ⟨g9, 0, none⟩)), (35, .int .i64 lines.length), (36, .int .i64 j.i)])
  (fun j => [bldr g9 j.v (headB letter lines.length ++ (lines.take j.i).flatten)]) (fun j => lines.length - j.i) ⟨0, v9⟩ ⟨Nat.zero_le _, by simp; omega⟩ ⟨rfl, rfl, rfl, rfl, trivial⟩ (.cons' 0 rfl (by simp [headB]) .nil) ?_
 rintro ⟨i, vi⟩ ⟨hi, hle⟩
 dsimp only at hi hle ⊢
 refine Zs ?_
 refine Zc ?_
 refine Zx <| DC.seq ?_
 refine Zd (fun c10 => ?_) fun c10 => ?_
 ·have hlt : i < lines.length := by simpa using c10
  obtain ⟨l, hl⟩ : ∃ l, lines[i]? = some l := ⟨_, Q8 hlt⟩
  have hsm := hF.small hc5 l (Rc hl)
  refine DC.skip <| Fin.then <| DC.seq <| DC.block <| Zs ?_
  refine Zm ?_
  refine Za ?_
  refine Zx <| Zs ?_
  iterate 2 refine Zm ?_
  refine Seq.rel0 rfl rfl (Am en48 rfl rfl rfl (fun w hw => hF.line hc5 i l hl w _ hw)) ?_
  rintro _ rfl
  refine Seq.gen rfl rfl (Ie rfl rfl rfl (fun w hw => hw) (by omega)) ?_
  rintro _ _ ⟨v42, rfl⟩
  refine Zx <| Zs ?_
  refine Seq.rel0 rfl rfl (Am PC rfl rfl rfl (fun w hw => Ey (hw.holds _ (Ri ..)))) ?_
  rintro _ rfl
  refine Zo (Bx rfl rfl rfl) ?_
  refine Zx ?_
  refine Zd (fun c13 => ?_) fun c13 => ?_
  ·refine Zs ?_
   iterate 2 refine Za ?_
   refine Zx <| DC.ret <| Ae <| Aa <| Aa <| Ae <| Aa ?_
   refine Fin.weak (E' := [(2, _), (3, _)]) ⟨rfl, rfl, trivial⟩ .nil ?_
   refine AI (.inl rfl) rfl rfl rfl ?_
   refine ⟨rfl, [], 10, rfl, .inr (.inr ⟨rfl, hc2, hc5, ?_, rfl⟩)⟩
   have := KD lines (i + 1)
   rw [Dv hl] at this
   simp at c13
   simp [textB] at c13 this ⊢; omega
  refine DC.skip <| Fin.inBlock <| Fin.then <| DC.region ?_
  refine Zp ?_
  refine Zm ?_
  refine Seq.nil ?_
  refine Fin.again ⟨i + 1, v42⟩ (by dsimp only; omega) ⟨by dsimp only; omega, ?_⟩ ⟨rfl, rfl, rfl, rfl, trivial⟩ (.cons' 0 rfl (by dsimp only; rw [Dv hl, List.append_assoc]) .nil)
  dsimp only
  rw [Dv hl, ← List.append_assoc]
  simp only [decide_eq_false_iff_not] at c13
  omega
 refine DC.exit <| Ad <| Ad <| Ag <| Fin.then <| DC.seq <| DC.seq ?_
 have hin : i = lines.length := by simp at c10; omega
 subst hin
 rw [List.take_length] at hle ⊢
 refine DC.region ?_
 refine Seq.rel0 rfl rfl (Am PC rfl rfl rfl (fun w hw => Ey (hw.holds _ (Ri ..)))) ?_
 rintro _ rfl
 refine Zo (Bx rfl rfl rfl) ?_
 refine Zx ?_
 refine Zd (fun c16 => ?_) fun c16 => ?_
 ·refine Zs ?_
  iterate 2 refine Za ?_
  refine Zx <| DC.ret <| Aa ?_
  refine Fin.weak (E' := [(2, _), (3, _)]) ⟨rfl, rfl, trivial⟩ .nil ?_
  refine AI (.inl rfl) rfl rfl rfl ?_
  exact ⟨rfl, [], 10, rfl, .inr (.inr ⟨rfl, hc2, hc5, by simp only [decide_eq_true_eq] at c16; unfold textB; omega, rfl⟩)⟩
 refine DC.skip <| Fin.then <| Zs ?_
 refine Seq.gen rfl rfl (Jy rfl rfl rfl (fun w hw => hw)) ?_
 rintro _ _ ⟨rfl, rfl⟩
 iterate 2 refine Za ?_
 refine Zx <| DC.ret ?_
 refine Fin.weak (E' := [(2, _), (3, _)]) ⟨rfl, rfl, trivial⟩ .nil ?_
 refine AI (.inl rfl) rfl rfl rfl ?_
 exact ⟨rfl, _, 0, rfl, .inl ⟨rfl, hc2, hc5, hle, rfl⟩⟩
/-! ### the certificate's text -/
def HasForm (pl : Bool) (ls : List (List Int)) (es : List Pr) : Prop := if pl then es = [] ∧ ListsOk ls else ls = [] ∧ EdgesOk es
def certB (pl : Bool) (ls : List (List Int)) (es : List Pr) : List UInt8 := if pl then textB [112] (ls.map lineB) else textB [110] (es.map fun e => lineB [e.1, e.2])
theorem ListsOk.fits {ls : List (List Int)} (h : ListsOk ls) {l : List Int} (hl : l ∈ ls) {a : Int} (ha : a ∈ l) : Fits a := by
 obtain ⟨i, hi⟩ := Rf.1 hl
 obtain ⟨j, hj⟩ := Rf.1 ha
 obtain ⟨b, hb⟩ : ∃ b, l[0]? = some b := ⟨_, Q8 (by have := (Q9.1 hj).1; omega)⟩
 exact (h.2 i l hi j a b hj hb).1
theorem Qe {ls : List (List Int)} {v : Value} {w : World} (hv : LsV w v ls) (hp : Pow w) (hs : ∀ l, l ∈ ls → l.length ≤ 33554432) : FormC w 153 v [112] 1048576 (ListsOk ls) (ls.map lineB) := by
 refine ⟨fun w' L hw => Js ls v w' (hv.keep0 hw), ?_, ?_, ?_, rfl, ?_⟩
 ·obtain ⟨A, cap, rfl, _, _, _, hle⟩ := hv
  refine ⟨220, Qr, fun w => by kernel_rfl, fun w => ?_⟩
  rw [List.length_map]
  exact H9 A _ cap w
 ·intro hok i l hl w' L hw
  simp only [List.getElem?_map, Option.map_eq_some_iff] at hl
  obtain ⟨l', hl', rfl⟩ := hl
  have hm := Rc hl'
  exact Ji (hv.keep0 hw) hl' (fun a ha => (hok.fits hm ha).i64) (hp.keep0 hw) (by have := hs l' hm; omega)
 ·obtain ⟨A, cap, rfl, _, _, _, hle⟩ := hv
  simpa using hle
 intro hok l hl
 simp only [List.mem_map] at hl
 obtain ⟨l', hm, rfl⟩ := hl
 have := Cr (ns := l') (fun a ha => (hok.fits hm ha).i64)
 have := hs l' hm
 omega
theorem Qf {es : List Pr} {v : Value} {w : World} (hv : PrV w v es) (hp : Pow w) : FormC w 154 v [110] 4194304 (EdgesOk es) (es.map fun e => lineB [e.1, e.2]) := by
 have i64 : ∀ {e : Pr}, EdgesOk es → e ∈ es → I64 e.1 ∧ I64 e.2 := fun hok hm => by
  obtain ⟨i, hi⟩ := Rf.1 hm
  have := hok.ok i _ hi
  exact ⟨this.1.i64, this.2.1.i64⟩
 refine ⟨fun w' L hw => Jt es v w' (hv.keep0 hw), ?_, ?_, ?_, rfl, ?_⟩
 ·obtain ⟨A, cap, rfl, _, _, _, hle⟩ := hv
  refine ⟨221, Qq, fun w => by kernel_rfl, fun w => ?_⟩
  rw [List.length_map]
  exact Ip A _ cap w
 ·intro hok i l hl w' L hw
  simp only [List.getElem?_map, Option.map_eq_some_iff] at hl
  obtain ⟨e, he, rfl⟩ := hl
  have hm := i64 hok (Rc he)
  exact Jj (hv.keep0 hw) he hm.1 hm.2 (hp.keep0 hw)
 ·obtain ⟨A, cap, rfl, _, _, _, hle⟩ := hv
  simp; omega
 intro hok l hl
 simp only [List.mem_map] at hl
 obtain ⟨e, hm, rfl⟩ := hl
 have h2 := i64 hok hm
 have := Cr (ns := [e.1, e.2]) (by simp; exact h2)
 simp at this; omega
/-- cert.Print. -/
theorem FE {pl : Bool} {ls : List (List Int)} {es : List Pr} {v u : Value} {w : World} (hv : LsV w v ls) (hu : PrV w u es) (hp : Pow w) (hs : ∀ l, l ∈ ls → l.length ≤ 33554432) :
  Calls Tryz.prog 24 #[.agg #[.bool pl, v, u]] w (Ret w [] fun r L => L = [] ∧ ∃ s e, r = .tuple #[str s, .int .i64 e] ∧
   ((e = 0 ∧ HasForm pl ls es ∧ (certB pl ls es).length ≤ 33554432 ∧ s = certB pl ls es) ∨ (e = 170 ∧ ¬ HasForm pl ls es ∧ s = []) ∨ (e = 10 ∧ HasForm pl ls es ∧ 33554432 < (certB pl ls es).length ∧ s = []))) := by
 obtain ⟨A, cap, ev, _⟩ := id hv
 obtain ⟨B, cap', eu, _⟩ := id hu
 have hfo := fun w => If pl A B ls.length es.length cap cap' w
 rw [← ev, ← eu] at hfo
 have hcs : ∃ x y z, #[Value.bool pl, v, u] = #[x, y, z] ∧ x.oneCell' = true ∧ y.oneCell' = true ∧ z.oneCell' = true := ⟨_, _, _, rfl, rfl, by rw [ev]; rfl, by rw [eu]; rfl⟩
 unfold HasForm certB
 cases pl with
 | true =>
  simp only [if_true] at hfo ⊢
  have := Gh rfl hcs hfo (Qe hv hp hs) hp
  simpa [List.length_eq_zero_iff, and_assoc] using this
 | false =>
  simp only [Bool.false_eq_true, if_false] at hfo ⊢
  have := Gh rfl hcs hfo (Qf hu hp) hp
  simpa [List.length_eq_zero_iff, and_assoc] using this
end Go.Fl

namespace Go.Fl
open Go
def updN (p : Nat → Nat) (a x : Nat) : Nat → Nat := fun i => if i = a then x else p i
def Down (p : Nat → Nat) : Prop := ∀ x, p x ≤ x
def rt (p : Nat → Nat) (a : Nat) : Nat := if p a < a then rt p (p a) else a
termination_by a
theorem I0 (p : Nat → Nat) : ∀ a, rt p a ≤ a := by
 intro a
 induction a using Nat.strongRecOn with
 | _ a ih =>
  rw [rt]
  split
  ·rename_i h; exact Nat.le_trans (ih _ h) (Nat.le_of_lt h)
  exact Nat.le_refl _
theorem Ki {p : Nat → Nat} (hp : Down p) : ∀ a, p (rt p a) = rt p a := by
 intro a
 induction a using Nat.strongRecOn with
 | _ a ih =>
  rw [rt]
  split
  ·rename_i h; exact ih _ h
  have := hp a; omega
theorem EF {p : Nat → Nat} {a : Nat} (h : p a = a) : rt p a = a := by rw [rt, if_neg (by omega)]
theorem Ov {p : Nat → Nat} (hp : Down p) (a : Nat) : rt p (rt p a) = rt p a := EF (Ki hp a)
theorem EE {p : Nat → Nat} (hp : Down p) (a : Nat) : rt p (p a) = rt p a := by
 rw [rt.eq_1 p a]
 split
 ·rfl
 have := hp a
 have : p a = a := by omega
 rw [this]; exact EF this
theorem JF {p : Nat → Nat} (hp : Down p) {a x : Nat} (h : x ≤ a) : Down (updN p a x) := by
 intro i; unfold updN; split
 ·omega
 exact hp i
theorem Ow {p : Nat → Nat} (hp : Down p) (a : Nat) : ∀ x, rt (updN p a (p (p a))) x = rt p x := by
 intro x
 induction x using Nat.strongRecOn with
 | _ x ih =>
  rw [rt.eq_1 (updN p a (p (p a))) x]
  by_cases hx : x = a
  ·subst hx
   have e : updN p x (p (p x)) x = p (p x) := by simp [updN]
   rw [e]
   split
   ·rename_i h
    rw [ih _ h, EE hp, EE hp]
   rename_i h
   have h1 := hp (p x)
   have h2 := hp x
   have : p x = x := by omega
   rw [EF this]
  have e : updN p a (p (p a)) x = p x := by simp [updN, hx]
  rw [e]
  split
  ·rename_i h; rw [ih _ h, EE hp]
  rename_i h
  have := hp x
  rw [EF (by omega)]
theorem Ou {p : Nat → Nat} (hp : Down p) {x y : Nat} (hx : p x = x) (hy : p y = y) (h : x < y) : ∀ z, rt (updN p y x) z = if rt p z = y then x else rt p z := by
 intro z
 induction z using Nat.strongRecOn with
 | _ z ih =>
  rw [rt.eq_1 (updN p y x) z]
  by_cases hz : z = y
  ·subst hz
   have e : updN p z x z = x := by simp [updN]
   rw [e, if_pos h, ih x h, EF hx, EF hy, if_pos rfl, if_neg (by omega)]
  have e : updN p y x z = p z := by simp [updN, hz]
  rw [e]
  split
  ·rename_i h1; rw [ih _ h1, EE hp]
  rename_i h1
  have := hp z
  have e2 : rt p z = z := EF (by omega)
  rw [e2, if_neg hz]
/-- Joined by edges. -/
inductive Conn (es : List Pr) : Nat → Nat → Prop
 | refl (a : Nat) : Conn es a a
 | edge (u v : Nat) (h : ((u : Int), (v : Int)) ∈ es) : Conn es u v
 | symm {a b : Nat} (h : Conn es a b) : Conn es b a
 | trans {a b c : Nat} (h : Conn es a b) (k : Conn es b c) : Conn es a c
theorem Conn.mono {es fs : List Pr} (h : ∀ e, e ∈ es → e ∈ fs) {a b : Nat} (c : Conn es a b) : Conn fs a b := by
 induction c with
 | refl a => exact .refl a
 | edge u v h' => exact .edge u v (h _ h')
 | symm _ ih => exact .symm ih
 | trans _ _ ih1 ih2 => exact .trans ih1 ih2
/-- A function parts the numbers as the edges do. -/
def Parts (es : List Pr) (r : Nat → Nat) : Prop := ∀ a b, r a = r b ↔ Conn es a b
theorem Mb : Parts [] (fun a => a) := by
 intro a b
 constructor
 ·rintro rfl; exact .refl _
 intro h
 induction h with
 | refl a => rfl
 | edge u v h => simp at h
 | symm _ ih => exact ih.symm
 | trans _ _ ih1 ih2 => exact ih1.trans ih2
theorem Fy {es : List Pr} {r s : Nat → Nat} (h : ∀ x, r x = s x) (hr : Parts es r) : Parts es s := by
 intro a b; rw [← h, ← h]; exact hr a b
theorem Kl {es : List Pr} {r : Nat → Nat} (hr : Parts es r) {u v : Nat} (h : r u = r v) : Parts (es ++ [((u : Int), (v : Int))]) r := by
 intro a b
 constructor
 ·intro hab; exact ((hr a b).1 hab).mono (by simp +contextual)
 intro c
 induction c with
 | refl a => rfl
 | edge x y hxy =>
  rw [List.mem_append] at hxy
  rcases hxy with hxy | hxy
  ·exact (hr x y).2 (.edge x y hxy)
  simp at hxy
  obtain ⟨h1, h2⟩ := hxy
  have h1 : x = u := by omega
  have h2 : y = v := by omega
  subst h1 h2; exact h
 | symm _ ih => exact ih.symm
 | trans _ _ ih1 ih2 => exact ih1.trans ih2
theorem Km {es : List Pr} {r s : Nat → Nat} (hr : Parts es r) {u v lo hi : Nat} (hs : ∀ z, s z = if r z = hi then lo else r z) (huv : (r u = lo ∧ r v = hi) ∨ (r u = hi ∧ r v = lo)) :
  Parts (es ++ [((u : Int), (v : Int))]) s := by
 have hmono : ∀ {a b}, Conn es a b → Conn (es ++ [((u : Int), (v : Int))]) a b := fun c => c.mono (by simp +contextual)
 have hnew : Conn (es ++ [((u : Int), (v : Int))]) u v := .edge u v (by simp)
 -- a number of the one set, and one of the other
 have cross : ∀ {a b}, r a = hi → r b = lo → Conn (es ++ [((u : Int), (v : Int))]) a b := by
  intro a b ha hb
  rcases huv with ⟨h1, h2⟩ | ⟨h1, h2⟩
  ·exact (hmono ((hr a v).1 (ha.trans h2.symm))).trans (hnew.symm.trans (hmono ((hr u b).1 (h1.trans hb.symm))))
  exact (hmono ((hr a u).1 (ha.trans h1.symm))).trans (hnew.trans (hmono ((hr v b).1 (h2.trans hb.symm))))
 intro a b
 constructor
 ·intro hab
  rw [hs, hs] at hab
  split at hab
  ·rename_i ha
   split at hab
   ·rename_i hb; exact hmono ((hr a b).1 (ha.trans hb.symm))
   exact cross ha hab.symm
  split at hab
  ·rename_i hb; exact (cross hb hab).symm
  exact hmono ((hr a b).1 hab)
 intro c
 induction c with
 | refl a => rfl
 | edge x y hxy =>
  rw [List.mem_append] at hxy
  rcases hxy with hxy | hxy
  ·rw [hs, hs, (hr x y).2 (.edge x y hxy)]
  simp at hxy
  obtain ⟨h1, h2⟩ := hxy
  have h1 : x = u := by omega
  have h2 : y = v := by omega
  subst h1 h2
  rw [hs, hs]
  rcases huv with ⟨h1, h2⟩ | ⟨h1, h2⟩ <;> rw [h1, h2] <;> simp
 | symm _ ih => exact ih.symm
 | trans _ _ ih1 ih2 => exact ih1.trans ih2
def nat (p : Nat → Nat) : Nat → Int := fun i => (p i : Int)
theorem Lv (p : Nat → Nat) (a x : Nat) : upd (nat p) a (x : Int) = nat (updN p a x) := by
 funext i; unfold upd nat updN; split <;> rfl
end Go.Fl

namespace Go.Fl
open Go Go.Proofs
structure UfI where
 a : Nat
 p : Nat → Nat
theorem Em {g n a : Nat} {p : Nat → Nat} {w : World} (hO : Own w [g] w [blk g 3 (ints (tab n (nat p))).toArray]) (hp : Down p) (ha : a < n) (hn : n ≤ 1048576) :
  Calls Tryz.prog 191 #[.slice (some ⟨g, 0, none⟩) n n, .int .i64 a] w
   (Ret w [g] fun v M => v = .int .i64 (rt p a) ∧ ∃ q, Down q ∧ (∀ x, rt q x = rt p x) ∧ M = [blk g 3 (ints (tab n (nat q))).toArray]) := by
 refine Ao (args := [_, _]) Tryz.func191 rfl Tryz.ntmps191 rfl hO ?_
 refine Zs ?_
 refine Za ?_
 refine Zx <| DC.seq <| DC.block ?_
 refine DC.loop (ι := UfI) (fun j => j.a < n ∧ Down j.p ∧ (∀ x, rt j.p x = rt p x) ∧ rt p j.a = rt p a)
  (fun j => [(0, .slice (some ⟨g, 0, none⟩) n n), (1, .int .i64 j.a)]) (fun j => [blk g 3 (ints (tab n (nat j.p))).toArray]) (fun j => j.a) ⟨a, p⟩ ⟨ha, hp, fun _ => rfl, rfl⟩ ⟨rfl, rfl, trivial⟩ (.cons 0 rfl .nil) ?_
 rintro ⟨b, q⟩ ⟨hb, hq, hqr, hba⟩
 dsimp only at hb hq hqr hba ⊢
 have hqb := hq b
 refine DC.seq <| Zs ?_
 iterate 2 refine Zm ?_
 refine Zi Tryz.underlying261 AN ?_
 refine Zu (Ak rfl rfl AJ (A8 (Bm hb))) ?_
 refine Zm ?_
 refine Zo (BQ rfl rfl rfl) ?_
 refine Zx ?_
 refine Zd (fun c1 => ?_) fun c1 => ?_
 ·have hne : q b ≠ b := fun e => by simp [nat, e] at c1
  have hqq := hq (q b)
  refine DC.skip <| Fin.then <| DC.block <| Zs ?_
  iterate 5 refine Zm ?_
  refine Zi Tryz.underlying261 AN ?_
  refine Zu (Ak rfl rfl AJ (A8 (Bm hb))) ?_
  refine Zo (Aw (ad' := ⟨g, q b, none⟩) rfl rfl rfl Tryz.underlying261 AN (by simp [nat]) (by simp [nat]; omega) (by rw [Az]; rfl)) ?_
  refine Zu (Ak rfl rfl AJ (A8 (Bm (i := q b) (by omega)))) ?_
  refine Zi Tryz.underlying261 AN ?_
  refine Zy (AB rfl rfl rfl AN rfl (by simp; omega) BY) ?_
  refine Seq.nil ?_
  refine Fin.weak (E' := [(0, .slice (some ⟨g, 0, none⟩) n n), (1, .int .i64 b)]) (L' := [blk g 3 (ints (tab n (nat (updN q b (q (q b)))))).toArray]) ⟨rfl, rfl, trivial⟩ (.cons' 0 rfl (by rw [← Lv]; rfl) .nil) ?_
  have hq2 := JF hq (a := b) (x := q (q b)) (by omega)
  have hr2 := Ow hq b
  have hb2 : updN q b (q (q b)) b = q (q b) := by simp [updN]
  generalize updN q b (q (q b)) = q' at hq2 hr2 hb2 ⊢
  refine Fin.then <| DC.region ?_
  iterate 2 refine Zm ?_
  refine Zi Tryz.underlying261 AN ?_
  refine Zu (Ak rfl rfl AJ (A8 (Bm hb))) ?_
  refine Za ?_
  refine Seq.nil <| Fin.inBlock ?_
  refine Fin.again ⟨q' b, q'⟩ (by dsimp only; omega) ⟨by dsimp only; omega, hq2, fun x => (hr2 x).trans (hqr x), ?_⟩ ⟨rfl, rfl, trivial⟩ (.cons 0 rfl .nil)
  dsimp only
  rw [← hqr, ← hr2, EE hq2, hr2, hqr, hba]
 refine DC.exit <| Ad <| Ad <| Ag <| Fin.then <| Zs ?_
 refine Zm ?_
 refine Za ?_
 refine Zx <| DC.ret ?_
 refine Zh ?_
 refine ⟨?_, q, hq, hqr, rfl⟩
 have h9 := Decidable.not_not.1 (of_decide_eq_false c1)
 have : q b = b := Int.ofNat.inj h9
 rw [← hba, ← hqr, EF this]
theorem Jm {A : Option Addr} {n cap : Nat} {a : Int} {w : World} : Calls Tryz.prog 200 #[.slice A n cap, .int .i64 a] w (Ret w [] fun v L => L = [] ∧ v = .bool (decide (0 ≤ a ∧ a < n))) := by
 refine Ao (args := [_, _]) (L := []) Tryz.func200 rfl Tryz.ntmps200 rfl (Own.start _ _) ?_
 refine Zs ?_
 refine Za ?_
 refine Zx <| Zs ?_
 refine Zm ?_
 refine Zo (Ck rfl rfl rfl) ?_
 refine Zm ?_
 refine Seq.split 7 rfl (fun k1_2 => ?_) (fun k1_2 => ?_)
 ·refine Zm ?_
  refine Zm ?_
  refine Zn Tryz.underlying261 ?_
  refine Zc ?_
  refine Zt ?_
  refine Za ?_
  refine Zx <| DC.ret ?_
  refine Zh ?_
  refine ⟨rfl, ?_⟩
  simp_all
  try omega
 iterate 4 refine Zk ?_
 refine Zg ?_
 refine Za ?_
 refine Zx <| DC.ret ?_
 refine Zh ?_
 refine ⟨rfl, ?_⟩
 simp_all
 try omega
/-- The sets: a struct in block gp, parents in g1, sizes in g2. -/
def setsL (gp g1 g2 n : Nat) (p : Nat → Nat) (sz : List Int) (c : Int) : List Chunk :=
 [blk gp 263 #[.slice (some ⟨g1, 0, none⟩) n n, .slice (some ⟨g2, 0, none⟩) n n, .int .i64 c], blk g1 3 (ints (tab n (nat p))).toArray, blk g2 3 (ints sz).toArray]
theorem HA {gp g1 g2 n : Nat} {p : Nat → Nat} {sz : List Int} {c a : Int} {w0 w : World} {K : List Nat} (hO : Own w0 K w (setsL gp g1 g2 n p sz c)) :
  Calls Tryz.prog 190 #[.pointer (some ⟨gp, 0, none⟩), .int .i64 a] w (Ret w [] fun v L => L = [] ∧ v = .bool (decide (0 ≤ a ∧ a < n))) := by
 have hb := hO.holds _ (Ri ..)
 refine Ao (args := [_, _]) (L := []) Tryz.func190 rfl Tryz.ntmps190 rfl (Own.start _ _) ?_
 refine Zs ?_
 refine Za ?_
 refine Zx <| Zs ?_
 refine Zm ?_
 refine Zo (Md rfl rfl rfl Tryz.underlying248) ?_
 refine Zm ?_
 refine Seq.split 7 rfl (fun k1_2 => ?_) (fun k1_2 => ?_)
 ·refine Zm ?_
  refine Zo (AA rfl rfl) ?_
  refine Zf Dw ?_
  refine Zu (Ak rfl rfl GU (AH hb rfl)) ?_
  refine Zm ?_
  refine Seq.rel0 rfl rfl (Am Qu rfl rfl rfl (fun w hw => Jm)) ?_
  rintro _ rfl
  refine Zt ?_
  refine Za ?_
  refine Zx <| DC.ret ?_
  refine Zh ?_
  exact ⟨rfl, rfl⟩
 simp at k1_2 --closed
theorem K1 {gp g1 g2 n u v : Nat} {p : Nat → Nat} {sz : List Int} {c : Int} {es : List Pr} {w : World} (hO : Own w (idsOf (setsL gp g1 g2 n p sz c)) w (setsL gp g1 g2 n p sz c)) (hp : Down p) (hu : u < n) (hv : v < n) (hn : n ≤ 1048576) (hs : sz.length = n)
  (hP : Parts es (rt p)) :
  Calls Tryz.prog 176 #[.pointer (some ⟨gp, 0, none⟩), .int .i64 u, .int .i64 v] w (Ret w (idsOf (setsL gp g1 g2 n p sz c)) fun r M =>
   ∃ q sz' c', Down q ∧ sz'.length = n ∧ Parts (es ++ [((u : Int), (v : Int))]) (rt q) ∧ M = setsL gp g1 g2 n q sz' c') := by
 refine Ao (args := [_, _, _]) Tryz.func176 rfl Tryz.ntmps176 rfl hO ?_
 unfold setsL
 refine Zs ?_
 refine Za ?_
 refine Zx <| DC.seq <| Zs ?_
 iterate 2 refine Zm ?_
 refine Seq.rel0 rfl rfl (Am O1 rfl rfl rfl (fun w hw => HA hw)) ?_
 rintro _ rfl
 refine Zo (Bb rfl rfl) ?_
 refine Zm ?_
 refine Seq.split 13 rfl (fun k1_4 => ?_) (fun k1_4 => ?_)
 ·refine Zk ?_
  iterate 3 refine Zk ?_
  refine Zt ?_
  refine Zx ?_
  refine AG rfl ?_
  refine Zs ?_
  refine Za ?_
  refine Zx <| DC.ret <| Aa ?_
  refine Zh ?_
  simp at k1_4; omega
 iterate 2 refine Zm ?_
 refine Seq.rel0 rfl rfl (Am O1 rfl rfl rfl (fun w hw => HA hw)) ?_
 rintro _ rfl
 refine Zo (Bb rfl rfl) ?_
 refine Zg ?_
 refine Zx ?_
 refine Zd (fun c1 => ?_) fun c1 => ?_
 ·refine Zs ?_
  refine Za ?_
  refine Zx <| DC.ret <| Aa ?_
  refine Zh ?_
  simp at c1; omega
 refine DC.skip <| Fin.then <| DC.seq ?_
 refine AC (cl := [.q, .q, .q, .q, .q, .g, .q, .q, .q, .q, .q, .g, .q, .q]) (A := [0, 1, 3, 7, 0, 31, 0, 64, 192, 448, 0, 2047, 4095, 8191]) (order := [0, 1, 2, 3, 4, 5, 6, 7, 8, 9, 10, 11, 12, 13]) ([blk gp 263 #[.slice (some ⟨g1, 0, none⟩) n n, .slice (some ⟨g2, 0, none⟩) n n, .int .i64 c]]) mixed (by kernel_rfl) (fun w hw => hw.pick (.cons 0 rfl .nil)) ?_
 refine Ym ?_
 refine Yo rfl (AA rfl rfl) ?_
 refine Yf Dw ?_
 refine Flow.old rfl rfl rfl (Ak rfl rfl GU (Bt rfl)) ?_
 refine Ym ?_
 refine Flow.gen0 rfl rfl rfl rfl (AQ NN rfl rfl rfl (Lc := [blk g1 3 (ints (tab n (nat p))).toArray]) (F := [blk gp 263 #[.slice (some ⟨g1, 0, none⟩) n n, .slice (some ⟨g2, 0, none⟩) n n, .int .i64 c], blk g2 3 (ints sz).toArray]) (.swap _ _ _) (fun k hk => by simpa [blk] using hk)
  (fun w hw => Em (hw.pick (.cons 1 rfl .nil)).self hp hu hn)) (fun v L' hC w hw => by obtain ⟨_, ⟨_, q, _, _, rfl⟩, rfl⟩ := hC; exact hw.pick (.cons 1 rfl .nil)) ?_
 rintro _ _ ⟨_, ⟨rfl, q, hq, hqr, rfl⟩, rfl⟩
 simp only [zs]
 refine Ym ?_
 refine Yo rfl (AA rfl rfl) ?_
 refine Yf Dw ?_
 refine Flow.old rfl rfl rfl (Ak rfl rfl GU (Bt rfl)) ?_
 refine Ym ?_
 refine Flow.gen0 rfl rfl rfl rfl (AQ NN rfl rfl rfl (Lc := [blk g1 3 (ints (tab n (nat q))).toArray]) (F := [blk gp 263 #[.slice (some ⟨g1, 0, none⟩) n n, .slice (some ⟨g2, 0, none⟩) n n, .int .i64 c], blk g2 3 (ints sz).toArray]) (.refl _) (fun k hk => by simpa [blk] using hk)
  (fun w hw => Em (hw.pick (.cons 0 rfl .nil)).self hq hv hn)) (fun v L' hC w hw => by obtain ⟨_, ⟨_, q, _, _, rfl⟩, rfl⟩ := hC; exact hw.pick (.cons 1 rfl .nil)) ?_
 rintro _ _ ⟨_, ⟨rfl, q2, hq2, hqr2, rfl⟩, rfl⟩
 simp only [zs]
 refine Yo rfl (AF rfl rfl) ?_
 refine Yo rfl (AF rfl rfl) ?_
 refine Flow.end rfl ?_
 simp only [zq, zr]
 have hux := I0 p u
 have hvx := I0 q v
 have h2u : rt q2 u = rt p u := by rw [hqr2, hqr]
 have h2v : rt q2 v = rt q v := hqr2 v
 have hxx : q2 (rt p u) = rt p u := by rw [← h2u]; exact Ki hq2 u
 have hyy : q2 (rt q v) = rt q v := by rw [← h2v]; exact Ki hq2 v
 have hP2 : Parts es (rt q2) := Fy (fun z => by rw [hqr2, hqr]) hP
 generalize rt p u = x at hux h2u hxx ⊢
 generalize rt q v = y at hvx h2v hyy ⊢
 refine Fin.then <| DC.seq <| Zs ?_
 iterate 2 refine Zm ?_
 refine Zo (AW rfl rfl rfl) ?_
 refine Zx ?_
 refine Zd (fun c4 => ?_) fun c4 => ?_
 ·refine Zs ?_
  refine Za ?_
  refine Zx <| DC.ret <| Aa ?_
  refine Fin.weak (E' := [(6, _)]) ⟨rfl, trivial⟩ (.cons 1 rfl (.cons 0 rfl (.cons 0 rfl .nil))) ?_
  refine Zh ?_
  have hxy : x = y := by simp at c4; omega
  exact ⟨q2, sz, c, hq2, hs, Kl hP2 (by rw [h2u, h2v, hxy]), rfl⟩
 refine DC.skip <| Fin.then <| Zs ?_
 iterate 2 refine Zm ?_
 refine Zo (Lk rfl rfl rfl) ?_
 iterate 2 refine Zm ?_
 refine Zo (Ll rfl rfl rfl) ?_
 iterate 2 refine Za ?_
 refine Zx <| DC.seq ?_
 have hxy : x ≠ y := by simp at c4; omega
 obtain ⟨lo, hlo⟩ : ∃ lo, lo = min x y := ⟨_, rfl⟩
 obtain ⟨hi, hhi⟩ : ∃ hi, hi = max x y := ⟨_, rfl⟩
 have e7 : min (x : Int) (y : Int) = (lo : Int) := by omega
 have e8 : max (x : Int) (y : Int) = (hi : Int) := by omega
 rw [e7, e8]
 have hlt : lo < hi := by omega
 have hhn : hi < n := by omega
 have hlx : q2 lo = lo := by rcases (show lo = x ∨ lo = y by omega) with h | h <;> rw [h] <;> assumption
 have hhx : q2 hi = hi := by rcases (show hi = x ∨ hi = y by omega) with h | h <;> rw [h] <;> assumption
 have hj := Ou hq2 hlx hhx hlt
 have hsel : (rt q2 u = lo ∧ rt q2 v = hi) ∨ (rt q2 u = hi ∧ rt q2 v = lo) := by rw [h2u, h2v]; omega
 obtain ⟨s1, hs1⟩ : ∃ s, sz[lo]? = some s := ⟨_, Q8 (by omega)⟩
 obtain ⟨s2, hs2⟩ : ∃ s, sz[hi]? = some s := ⟨_, Q8 (by omega)⟩
 refine DC.region ?_
 refine Zm ?_
 refine Zo (AA rfl rfl) ?_
 refine Zf Dw ?_
 refine Zl GU ?_
 iterate 2 refine Zm ?_
 refine Zi Tryz.underlying261 AN ?_
 refine Zy (AB (cs' := (ints (tab n (nat (updN q2 hi lo)))).toArray) rfl rfl rfl AN rfl (by simp; omega) (by rw [← Lv]; exact BY)) ?_
 refine Zx <| DC.seq ?_
 refine AC (cl := [.q, .q, .q, .q, .q, .q, .v, .q, .q, .q, .q, .q, .q, .v, .q, .q, .g]) (A := [0, 1, 3, 7, 0, 31, 63, 0, 128, 384, 896, 0, 3968, 8064, 16383, 32767, 65535]) (order := [0, 1, 2, 3, 4, 5, 6, 7, 8, 9, 10, 11, 12, 13, 14, 15, 16]) ([blk gp 263 #[.slice (some ⟨g1, 0, none⟩) n n, .slice (some ⟨g2, 0, none⟩) n n, .int .i64 c]]) mixed (by kernel_rfl) (fun w hw => hw.pick (.cons 1 rfl .nil)) ?_
 refine Ym ?_
 refine Yo rfl (AA rfl rfl) ?_
 refine Yf Ih ?_
 refine Flow.old rfl rfl rfl (Ak rfl rfl BS (Bt rfl)) ?_
 refine Ym ?_
 refine Yo rfl (Aw rfl rfl rfl Rt AN (by omega) (by omega) (by first | exact Az _ _ | exact AS _ _ _ | rfl)) ?_
 refine Ar rfl rfl rfl rfl (Ak rfl rfl AJ (A8 (Bz hs1))) ?_
 refine Ym ?_
 refine Yo rfl (AA rfl rfl) ?_
 refine Yf Ih ?_
 refine Flow.old rfl rfl rfl (Ak rfl rfl BS (Bt rfl)) ?_
 refine Ym ?_
 refine Yo rfl (Aw rfl rfl rfl Rt AN (by omega) (by omega) (by first | exact Az _ _ | exact AS _ _ _ | rfl)) ?_
 refine Ar rfl rfl rfl rfl (Ak rfl rfl AJ (A8 (Bz hs2))) ?_
 refine Yo rfl (Pn rfl rfl rfl) ?_
 refine Yo rfl (Aw rfl rfl rfl Rt AN (by omega) (by omega) (by first | exact Az _ _ | exact AS _ _ _ | rfl)) ?_
 refine AD rfl rfl rfl rfl (AB (cs' := (ints (sz.set lo (IntKind.i64.wrap (s1 + s2)))).toArray) rfl rfl rfl AN rfl (by simp; omega) DM) (fun w hw => hw.pick (.cons 1 rfl .nil)) ?_
 refine Flow.end rfl ?_
 simp only [zq, zr]
 refine Fin.then <| Zs ?_
 refine Zm ?_
 refine Zo (AA rfl rfl) ?_
 refine Zf LI ?_
 refine Zl AJ ?_
 refine Zo (Pk rfl rfl rfl) ?_
 refine Zo (AA rfl rfl) ?_
 refine Zf LI ?_
 refine Zy (AB (cs' := #[_, _, _]) rfl rfl rfl AN rfl (Ra rfl) rfl) ?_
 refine Zx <| Zs ?_
 refine Za ?_
 refine Zx <| DC.ret ?_
 refine Fin.weak (E' := [(6, _)]) ⟨rfl, trivial⟩ (.cons 1 rfl (.cons 0 rfl (.cons 0 rfl .nil))) ?_
 refine Zh ?_
 exact ⟨updN q2 hi lo, _, _, JF hq2 (by omega), by simp [hs], Km hP2 hj hsel, rfl⟩
/-- What a check of rotations gives up with. -/
def flt (v e : Int) : Value := .iface 223 (.agg #[.int .i64 v, .int .i64 e])
theorem Bu (is : Bool) (v e : Int) (w : World) :
  Calls Tryz.prog 119 #[.bool is, .int .i64 v, .int .i64 e] w (RetP w [] (fun r M => M = [] ∧ is = true) (fun pv M => M = [] ∧ pv = flt v e ∧ is = false)) := by
 refine CK (K := []) (args := [_, _, _]) (L := []) Tryz.func119 rfl Tryz.ntmps119 rfl (Own.start _ _) ?_
 refine Zs ?_
 refine Zm ?_
 refine Zo (Bb rfl rfl) ?_
 refine Zx ?_
 refine Zd (fun c0 => ?_) fun c0 => ?_
 ·refine DC.region ?_
  iterate 2 refine Zm ?_
  refine Zo (As (cs := #[_, _]) rfl rfl Q1 rfl rfl) ?_
  refine Zo (Ep (v := flt v e) rfl rfl (fun w => by kernel_rfl)) ?_
  refine Seq.panic rfl rfl rfl ?_
  exact AZ ⟨rfl, rfl, by simpa using c0⟩
 refine DC.skip ?_
 refine CX (.inr rfl) (BL (.inr rfl) rfl ⟨rfl, by simpa using c0⟩)
theorem Is {v e : Int} {x y : Value} {ga gb : Nat} {w : World} (hO : Own w [ga, gb] w [blk ga 3 #[x], blk gb 29 #[y]]) :
  CallsD Tryz.prog 148 #[.pointer (some ⟨ga, 0, none⟩), .pointer (some ⟨gb, 0, none⟩)] (.panicking (onePanic (flt v e))) w
   fun e' u' w' => u' = .panicking [{ v := flt v e, recovered := true }] ∧ Ret w [ga, gb] (fun r M => M = [blk ga 3 #[.int .i64 v], blk gb 29 #[.int .i64 e]]) e' w' := by
 refine DD (args := [_, _]) Tryz.func148 rfl Tryz.ntmps148 rfl rfl rfl rfl rfl rfl rfl rfl (.some _ []) hO ?_
 refine Zs ?_
 refine Zm ?_
 refine Zo (Lp (b := true) rfl rfl rfl (fun w => by kernel_rfl)) ?_
 refine Zx ?_
 refine AG rfl ?_
 refine Zs ?_
 refine Zm ?_
 refine Zo (CA (v := .tuple #[.agg #[.int .i64 v, .int .i64 e], .bool true]) rfl rfl (fun w => by kernel_rfl)) ?_
 refine Zm ?_
 iterate 2 refine Ze ?_
 refine Zw (Ay rfl PN rfl) fun g3 => ?_
 refine Zy (Ah (cs' := #[_, _]) rfl rfl rfl PW rfl (Ra rfl) rfl) ?_
 refine Za ?_
 refine Zx <| DC.seq <| Zs ?_
 refine Zm ?_
 refine Zo (Bb rfl rfl) ?_
 refine Zx ?_
 refine Ba rfl ?_
 refine DC.skip <| Fin.then ?_
 refine AC (cl := [.q, .q, .q, .q, .g, .g]) (A := [0, 1, 0, 4, 3, 31]) (order := [0, 1, 2, 3, 4, 5]) ([blk g3 223 #[.int .i64 v, .int .i64 e]]) mixed (by kernel_rfl) (fun w hw => hw.pick (.cons 0 rfl .nil)) ?_
 refine Yf ON ?_
 refine Flow.old rfl rfl rfl (Ak rfl rfl AJ (Bt rfl)) ?_
 refine Yf OM ?_
 refine Flow.old rfl rfl rfl (Ak rfl rfl Fq (Bt rfl)) ?_
 refine AD rfl rfl rfl rfl (AB (cs' := #[_]) rfl rfl rfl AN rfl (Ra rfl) rfl) (fun w hw => hw.pick (.cons 0 rfl .nil)) ?_
 refine AD rfl rfl rfl rfl (AB (cs' := #[_]) rfl rfl rfl On rfl (Ra rfl) rfl) (fun w hw => hw.pick (.cons 0 rfl .nil)) ?_
 refine Flow.end rfl ?_
 simp only [zq, zr]
 refine Fin.weak (E' := []) trivial (.cons 1 rfl (.cons 1 rfl .nil)) ?_
 refine BL (.inr rfl) rfl ?_
 rfl
theorem Iu {x y : Value} {ga gb : Nat} {w : World} (hO : Own w [ga, gb] w [blk ga 3 #[x], blk gb 29 #[y]]) :
  CallsD Tryz.prog 148 #[.pointer (some ⟨ga, 0, none⟩), .pointer (some ⟨gb, 0, none⟩)] .returning w
   fun e' u' w' => u' = .returning ∧ Ret w [ga, gb] (fun r M => M = [blk ga 3 #[x], blk gb 29 #[y]]) e' w' := by
 refine DD (args := [_, _]) Tryz.func148 rfl Tryz.ntmps148 rfl rfl rfl rfl rfl rfl rfl rfl .none hO ?_
 refine Zs ?_
 refine Zm ?_
 refine Zo (I5 (b := false) rfl rfl (fun w => by kernel_rfl)) ?_
 refine Zx ?_
 refine Ba rfl ?_
 refine DC.skip ?_
 refine BL (.inr rfl) rfl ?_
 rfl
theorem P7 {w0 w : World} {K : List Nat} {ga gb t t' : Nat} {x y : Array Value} {F : List Chunk} (h : Own w0 K w (blk ga t x :: blk gb t' y :: F)) : Own w [ga, gb] w [blk ga t x, blk gb t' y] :=
 (h.sub (L' := [blk ga t x, blk gb t' y]) (by simp)).self
/-- rot.caught: a check that returns, or gives up with a fault. -/
theorem EY {f : Nat} {cap : Array Value} {w : World} {Lc : List Chunk} {C : List Chunk → Prop} {D : Int → Int → List Chunk → Prop} (hf : Ent Tryz.prog f) (hO : Own w (idsOf Lc) w Lc)
  (hcon : ∀ w', Own w (idsOf Lc) w' Lc → Calls Tryz.prog f cap w' (RetP w' (idsOf Lc) (fun _ M => C M) (fun pv M => ∃ v e, pv = flt v e ∧ D v e M))) :
  Calls Tryz.prog 112 #[.func (.func f) #[] cap] w (Ret w (idsOf Lc) fun r M => (r = .tuple #[.int .i64 0, .int .i64 0] ∧ C M) ∨ ∃ v e, r = .tuple #[.int .i64 v, .int .i64 e] ∧ D v e M) := by
 refine HI (args := [_]) Tryz.func112 rfl Tryz.ntmps112 rfl hO ?_
 refine Zs ?_
 refine Zw (Ay rfl Cg rfl) fun g2 => ?_
 refine Zw (Ay rfl PM rfl) fun g3 => ?_
 refine Zx <| Zs ?_
 refine Zo (E9 rfl rfl rfl) ?_
 refine Seq.defer rfl rfl rfl rfl ?_
 refine Zx <| Zs ?_
 refine Zm ?_
 refine Dc (Lc := Lc) (F := [blk g3 29 #[.int .i64 0], blk g2 3 #[.int .i64 0]]) (K' := idsOf Lc) (C := fun _ M => C M) (D := fun pv M => ∃ v e, pv = flt v e ∧ D v e M) rfl rfl hf rfl rfl rfl (Rr (l₁ := [_, _])) (fun _ h => h) (fun w' hw => by simpa using hcon w' (hw.sub ((Rg _ _).trans (Rg _ _)))) ?_ ?_
 ·rintro pv M ⟨v, e, rfl, hD⟩
  refine Aj <| GW ?_
  refine Fin.leaves (f := 148) (cap := [.pointer (some ⟨g2, 0, none⟩), .pointer (some ⟨g3, 0, none⟩)]) (Lc := [blk g2 3 #[.int .i64 0], blk g3 29 #[.int .i64 0]]) (F := M) O5 (by simp) rfl
   ((Rr (l₁ := M)).trans (.swap _ _ _)) (fun k hk => by simpa [blk] using hk) (fun w' hw => Is (P7 (hw.perm ((Rr (l₁ := M)).trans (.swap _ _ _)).symm))) ?_
  rintro r L' rfl a w' ha hw
  have e2 : a.tmps.getD 2 undef = .pointer (some ⟨g2, 0, none⟩) := by have := ha.ev (x := .tmp 2) (v := .pointer (some ⟨g2, 0, none⟩)) rfl; simpa only [Act.eval] using this
  have e3 : a.tmps.getD 3 undef = .pointer (some ⟨g3, 0, none⟩) := by have := ha.ev (x := .tmp 3) (v := .pointer (some ⟨g3, 0, none⟩)) rfl; simpa only [Act.eval] using this
  exact ⟨_, E8 rfl e2 e3 (BU (hw.holds (blk g2 3 #[.int .i64 v]) (by simp)) AJ rfl) (BU (hw.holds (blk g3 29 #[.int .i64 e]) (by simp)) Fq rfl),
   _, M, rfl, .inr ⟨v, e, rfl, hD⟩, hw.sub ((Rg _ _).trans (Rg _ _))⟩
 intro v6 M hC
 refine Seq.own (fun w hw => hw.perm (Rr (l₁ := [_, _]))) ?_
 simp only [zs]
 refine Zx <| Zs ?_
 refine Zy (AB (cs' := #[_]) rfl rfl rfl AN rfl (Ra rfl) rfl) ?_
 refine Zy (AB (cs' := #[_]) rfl rfl rfl On rfl (Ra rfl) rfl) ?_
 refine Zx <| DC.ret ?_
 refine J4 ?_
 refine Fin.leaves (f := 148) (cap := [.pointer (some ⟨g2, 0, none⟩), .pointer (some ⟨g3, 0, none⟩)]) (Lc := [blk g2 3 #[.int .i64 0], blk g3 29 #[.int .i64 0]]) (F := M) O5 (by simp) rfl
  (.swap _ _ _) (fun k hk => by simpa [blk] using hk) (fun w' hw => Iu (P7 (hw.perm (.swap _ _ _)))) ?_
 rintro r L' rfl a w' ha hw
 have e2 : a.tmps.getD 2 undef = .pointer (some ⟨g2, 0, none⟩) := by have := ha.ev (x := .tmp 2) (v := .pointer (some ⟨g2, 0, none⟩)) rfl; simpa only [Act.eval] using this
 have e3 : a.tmps.getD 3 undef = .pointer (some ⟨g3, 0, none⟩) := by have := ha.ev (x := .tmp 3) (v := .pointer (some ⟨g3, 0, none⟩)) rfl; simpa only [Act.eval] using this
 exact ⟨_, E8 rfl e2 e3 (BU (hw.holds (blk g2 3 #[.int .i64 0]) (by simp)) AJ rfl) (BU (hw.holds (blk g3 29 #[.int .i64 0]) (by simp)) Fq rfl),
  _, M, rfl, .inl ⟨rfl, hC⟩, hw.sub ((Rg _ _).trans (Rg _ _))⟩
theorem G9 (a b c d : Int) (w : World) (h : 0 ≤ a ∧ a ≤ 1048576 ∧ 0 ≤ b ∧ b ≤ 1048576 ∧ 0 ≤ c ∧ c ≤ 1048576 ∧ 0 ≤ d ∧ d ≤ 1048576) :
  Calls Tryz.prog 75 #[.agg #[.int .i64 a, .int .i64 b], .agg #[.int .i64 c, .int .i64 d]] w (Ret w [] fun v L => L = [] ∧ v = .int .i64 (if a = c then b - d else a - c)) := by
 refine Ao (args := [_, _]) (L := []) Tryz.func75 rfl Tryz.ntmps75 rfl (Own.start _ _) ?_
 refine Zs ?_
 refine Zw (AX rfl rfl rfl) fun g2 => ?_
 refine Zw (AX rfl rfl rfl) fun g3 => ?_
 refine Za ?_
 refine Zx <| DC.seq <| Zs ?_
 refine Zf Bf ?_
 refine Zl AJ ?_
 refine Zf Bf ?_
 refine Zl AJ ?_
 refine Zo (BQ rfl rfl rfl) ?_
 refine Zx ?_
 refine Zd (fun c1 => ?_) fun c1 => ?_
 ·refine Zs ?_
  refine Zf Bf ?_
  refine Zl AJ ?_
  refine Zf Bf ?_
  refine Zl AJ ?_
  refine Zo (Ce rfl rfl rfl (by omega)) ?_
  refine Za ?_
  refine Zx <| DC.ret <| Aa ?_
  refine Fin.weak (E' := [(4, _)]) ⟨rfl, trivial⟩ .nil ?_
  refine Zh ?_
  exact ⟨rfl, by rw [if_neg (by simpa using c1)]⟩
 refine DC.skip <| Fin.then <| Zs ?_
 refine Zf Bv ?_
 refine Zl AJ ?_
 refine Zf Bv ?_
 refine Zl AJ ?_
 refine Zo (Ce rfl rfl rfl (by omega)) ?_
 refine Za ?_
 refine Zx <| DC.ret ?_
 refine Fin.weak (E' := [(4, _)]) ⟨rfl, trivial⟩ .nil ?_
 refine Zh ?_
 exact ⟨rfl, by rw [if_pos (by simpa using c1)]⟩
theorem DK (N : Int) (es : List Pr) (A : Option Addr) (cap : Nat) (w : World) (hr : Rd w A (prs es)) (hl : es.length ≤ 9223372036854775807) :
  Calls Tryz.prog 41 #[.agg #[.int .i64 N, .slice A es.length cap]] w (Ret w [] fun v L => L = [] ∧ ∃ b, v = .bool b ∧ (b = true ↔ Vld N es)) := by
 refine Ao (args := [_]) (L := []) Tryz.func41 rfl Tryz.ntmps41 rfl (Own.start _ _) ?_
 refine Zs ?_
 refine Zw (AX rfl rfl rfl) fun g1 => ?_
 refine Za ?_
 refine Zx <| DC.seq <| Zs ?_
 refine Zf Cs ?_
 refine Zl AJ ?_
 refine Zc ?_
 refine Zm ?_
 refine Seq.split 8 rfl (fun k1_3 => ?_) (fun k1_3 => ?_)
 ·refine Zk ?_
  iterate 2 refine Zk ?_
  refine Zt ?_
  refine Zm ?_
  iterate 4 refine Zk ?_
  refine Zt ?_
  refine Zx ?_
  refine AG rfl ?_
  refine Zs ?_
  refine Za ?_
  refine Zx <| DC.ret <| Aa ?_
  refine Fin.weak (E' := [(2, _)]) ⟨rfl, trivial⟩ .nil ?_
  refine Zh ?_
  exact ⟨rfl, false, rfl, by simp; intro h; have := h.lo; simp at k1_3; omega⟩
 refine Zf Cs ?_
 refine Zl AJ ?_
 refine Zo (Bx rfl rfl rfl) ?_
 refine Zg ?_
 refine Zm ?_
 refine Seq.split 13 rfl (fun k1_8 => ?_) (fun k1_8 => ?_)
 ·refine Zk ?_
  iterate 3 refine Zk ?_
  refine Zt ?_
  refine Zx ?_
  refine AG rfl ?_
  refine Zs ?_
  refine Za ?_
  refine Zx <| DC.ret <| Aa ?_
  refine Fin.weak (E' := [(2, _)]) ⟨rfl, trivial⟩ .nil ?_
  refine Zh ?_
  exact ⟨rfl, false, rfl, by simp; intro h; have := h.hi; simp at k1_8; omega⟩
 refine Zf Br ?_
 refine Zl B9 ?_
 refine Zn Ru ?_
 refine Zo (Bx rfl rfl rfl) ?_
 refine Zg ?_
 refine Zx ?_
 refine Zd (fun c1 => ?_) fun c1 => ?_
 ·refine Zs ?_
  refine Za ?_
  refine Zx <| DC.ret <| Aa ?_
  refine Fin.weak (E' := [(2, _)]) ⟨rfl, trivial⟩ .nil ?_
  refine Zh ?_
  exact ⟨rfl, false, rfl, by simp; intro h; have := h.few; simp at c1; omega⟩
 refine DC.skip <| Fin.then <| DC.seq <| Zs ?_
 refine Zf Br ?_
 refine Zl B9 ?_
 refine Zn Ru ?_
 refine Zm ?_
 refine Zx <| DC.block ?_
 refine DC.loop (ι := Nat) (fun i => i ≤ es.length ∧ (∀ (j : Nat) e, j < i → es[j]? = some e → OkE N e) ∧ (∀ (j : Nat) a b, j + 1 < i → es[j]? = some a → es[j + 1]? = some b → Lex a b))
  (fun i => [(1, .pointer (some ⟨g1, 0, none⟩)), (20, .slice A es.length cap), (21, .int .i64 es.length), (22, .int .i64 i)])
  (fun i => [blk g1 24 #[.int .i64 N, .slice A es.length cap]]) (fun i => es.length - i) 0 ⟨Nat.zero_le _, fun _ _ h => absurd h (Rs _), fun _ _ _ h => absurd h (Rs _)⟩
  ⟨rfl, rfl, rfl, rfl, trivial⟩ (.cons 0 rfl .nil) ?_
 rintro i ⟨hi, hok, hup⟩
 refine Zs ?_
 refine Zc ?_
 refine Zx <| DC.seq ?_
 refine Zd (fun c4 => ?_) fun c4 => ?_
 ·have hlt : i < es.length := by simpa using c4
  obtain ⟨e, he⟩ : ∃ e, es[i]? = some e := ⟨_, Q8 hlt⟩
  obtain ⟨ad, rfl, hU, hV⟩ := hr.pair he
  refine DC.skip <| Fin.then <| DC.seq <| DC.block <| Zs ?_
  refine Zm ?_
  refine Zo (AT rfl rfl rfl Ru AP (by omega) (by omega) (by first | exact Az _ _ | exact AS _ _ _ | rfl)) ?_
  refine Zu (Aq (vs := [_, _]) rfl rfl BW AP rfl (CC hU hV (by simp))) ?_
  refine Zw (Ay rfl B6 rfl) fun g4 => ?_
  refine Za ?_
  refine Zy (Ah (cs' := #[_, _]) rfl rfl rfl AP rfl (Ra rfl) rfl) ?_
  refine Zx <| DC.seq ?_
  refine AC (cl := [.q, .v, .q, .q, .q, .v, .q, .v, .q, .q, .q, .q, .v, .q, .v, .q, .q, .q, .q, .q, .q, .q, .v, .q, .q, .q, .v, .v, .r, .q, .q, .q]) (A := [0, 1, 3, 7, 15, 31, 15, 79, 255, 511, 1023, 2047, 4095, 2047, 10239, 32767, 65535, 131071, 262143, 524287, 1048575, 2097151, 4194303, 2097151, 10485759, 33554431, 67108863, 2097151, 268435455, 536870911, 1073741823, 2147483647]) (order := [0, 1, 2, 3, 4, 5, 6, 7, 8, 9, 10, 11, 12, 13, 14, 15, 16, 17, 18, 19, 20, 21, 22, 23, 24, 25, 26, 27, 28, 29, 30, 31]) [] mixed (by kernel_rfl) (fun w hw => hw.pick .nil) ?_
  refine Yf Bf ?_
  refine Yl AJ ?_
  refine Yo rfl (Gl rfl rfl rfl) ?_
  refine Ym ?_
  refine Flow.split 30 rfl (fun k6_3 => ?_) (fun k6_3 => ?_)
  ·refine Yk ?_
   iterate 4 refine Yk ?_
   refine Yo rfl (A7 rfl rfl rfl) ?_
   refine Ym ?_
   iterate 5 refine Yk ?_
   refine Yo rfl (A7 rfl rfl rfl) ?_
   refine Ym ?_
   iterate 13 refine Yk ?_
   refine Yo rfl (A7 rfl rfl rfl) ?_
   refine Flow.end rfl ?_
   simp only [zq, zr]
   refine Fin.then ?_
   refine AG rfl ?_
   refine Zs ?_
   refine Za ?_
   refine Zx <| DC.ret <| Ae <| Aa <| Aa <| Ae <| Aa ?_
   refine Fin.weak (E' := [(2, _)]) ⟨rfl, trivial⟩ .nil ?_
   refine Zh ?_
   exact ⟨rfl, false, rfl, by simp; intro h; have := (h.ok i e he).lo; simp at k6_3; omega⟩
  refine Yf Bf ?_
  refine Yl AJ ?_
  refine Yf Bv ?_
  refine Yl AJ ?_
  refine Yo rfl (Ck rfl rfl rfl) ?_
  refine Yo rfl (Bc rfl rfl rfl) ?_
  refine Ym ?_
  refine Flow.split 37 rfl (fun k6_10 => ?_) (fun k6_10 => ?_)
  ·refine Yk ?_
   iterate 4 refine Yk ?_
   refine Yo rfl (A7 rfl rfl rfl) ?_
   refine Ym ?_
   iterate 13 refine Yk ?_
   refine Yo rfl (A7 rfl rfl rfl) ?_
   refine Flow.end rfl ?_
   simp only [zq, zr]
   refine Fin.then ?_
   refine AG rfl ?_
   refine Zs ?_
   refine Za ?_
   refine Zx <| DC.ret <| Ae <| Aa <| Aa <| Ae <| Aa ?_
   refine Fin.weak (E' := [(2, _)]) ⟨rfl, trivial⟩ .nil ?_
   refine Zh ?_
   exact ⟨rfl, false, rfl, by simp; intro h; have := (h.ok i e he).lt; simp at k6_10; omega⟩
  refine Yf Bv ?_
  refine Yl AJ ?_
  refine Yf Cs ?_
  refine Yl AJ ?_
  refine Yo rfl (Ck rfl rfl rfl) ?_
  refine Yo rfl (Bc rfl rfl rfl) ?_
  refine Ym ?_
  refine Flow.split 44 rfl (fun k6_17 => ?_) (fun k6_17 => ?_)
  ·refine Yk ?_
   iterate 12 refine Yk ?_
   refine Yo rfl (A7 rfl rfl rfl) ?_
   refine Flow.end rfl ?_
   simp only [zq, zr]
   refine Fin.then ?_
   refine AG rfl ?_
   refine Zs ?_
   refine Za ?_
   refine Zx <| DC.ret <| Ae <| Aa <| Aa <| Ae <| Aa ?_
   refine Fin.weak (E' := [(2, _)]) ⟨rfl, trivial⟩ .nil ?_
   refine Zh ?_
   exact ⟨rfl, false, rfl, by simp; intro h; have := (h.ok i e he).hi; simp at k6_17; omega⟩
  refine Ym ?_
  refine Yo rfl (Bx rfl rfl rfl) ?_
  refine Ym ?_
  refine Flow.split 47 rfl (fun k6_20 => ?_) (fun k6_20 => ?_)
  ·have hpos : 0 < i := by simpa using k6_20
   obtain ⟨d, hd⟩ : ∃ d, es[i - 1]? = some d := ⟨_, Q8 (by omega)⟩
   obtain ⟨ad', h', hU', hV'⟩ := hr.pair hd
   cases h'
   have h1 := hok (i - 1) d (by omega) hd
   have h1a := h1.lo
   have h1b := h1.lt
   have h1c := h1.hi
   have h2a : 0 ≤ e.1 := by simpa using k6_3
   have h2b : e.1 < e.2 := by simpa using k6_10
   have h2c : e.2 < N := by simpa using k6_17
   have h3 : N ≤ 1048576 := by simpa using k1_8
   have hii : ((i : Int) - 1).toNat = i - 1 := by omega
   refine Yf Br ?_
   refine Yl B9 ?_
   refine Ym ?_
   refine Yo rfl (Ce rfl rfl rfl (by omega)) ?_
   refine Yo rfl (AT (ad' := ad.add ((i - 1) * 2)) rfl rfl rfl Ru AP (by omega) (by omega) (by rw [hii])) ?_
   refine Ar rfl rfl rfl rfl (Aq (vs := [_, _]) rfl rfl BW AP rfl (CC hU' hV' (by simp))) ?_
   refine Ar rfl rfl rfl rfl (Aq (vs := [_, _]) rfl rfl BW AP rfl (Ai rfl)) ?_
   refine Flow.rel0 rfl rfl rfl rfl (Am en75 rfl rfl rfl (fun w hw => G9 d.1 d.2 e.1 e.2 w (by omega))) ?_
   rintro _ rfl
   refine Yo rfl (Ck rfl rfl rfl) ?_
   refine Yo rfl (A7 rfl rfl rfl) ?_
   refine Yo rfl (Bc rfl rfl rfl) ?_
   refine Flow.end rfl ?_
   simp only [zq, zr]
   refine Fin.then ?_
   refine Zd (fun c6 => ?_) fun c6 => ?_
   ·refine Zs ?_
    refine Za ?_
    refine Zx <| DC.ret <| Ae <| Aa <| Aa <| Ae <| Aa ?_
    refine Fin.weak (E' := [(2, _)]) ⟨rfl, trivial⟩ .nil ?_
    refine Zh ?_
    refine ⟨rfl, false, rfl, by simp; intro h; have := h.up (i - 1) d e hd (by rw [show i - 1 + 1 = i by omega]; exact he); unfold Lex at this; simp at c6; split at c6 <;> omega⟩
   refine DC.skip <| Fin.inBlock <| Fin.then <| DC.region ?_
   refine Zp ?_
   refine Zm ?_
   refine Seq.nil ?_
   refine Fin.again (i + 1) (by omega) ⟨by omega, ?_, ?_⟩ ⟨rfl, rfl, rfl, rfl, trivial⟩ (.cons 1 rfl .nil)
   ·intro j x hj hx
    rcases Re.1 hj with hj | rfl
    ·exact hok j x hj hx
    rw [he] at hx; cases hx; exact ⟨h2a, h2b, h2c⟩
   intro j a b hj ha hb
   rcases Re.1 hj with hj | hj
   ·exact hup j a b hj ha hb
   obtain rfl : j = i - 1 := by omega
   rw [hd] at ha; cases ha
   rw [show i - 1 + 1 = i by omega, he] at hb; cases hb
   unfold Lex
   simp at c6
   split at c6 <;> omega
  iterate 9 refine Yk ?_
  refine Yo rfl (Bc rfl rfl rfl) ?_
  refine Yo rfl (Bc rfl rfl rfl) ?_
  refine Flow.end rfl ?_
  simp only [zq, zr]
  refine Fin.then ?_
  refine Ba rfl ?_
  refine DC.skip <| Fin.inBlock <| Fin.then <| DC.region ?_
  refine Zp ?_
  refine Zm ?_
  refine Seq.nil ?_
  have h0 : i = 0 := by simp at k6_20; omega
  subst h0
  have h2a : 0 ≤ e.1 := by simpa using k6_3
  have h2b : e.1 < e.2 := by simpa using k6_10
  have h2c : e.2 < N := by simpa using k6_17
  refine Fin.again 1 (by omega) ⟨by omega, ?_, ?_⟩ ⟨rfl, rfl, rfl, rfl, trivial⟩ (.cons 1 rfl .nil)
  ·intro j x hj hx
   obtain rfl : j = 0 := by omega
   rw [he] at hx; cases hx; exact ⟨h2a, h2b, h2c⟩
  intro j a b hj; omega
 refine DC.exit <| Ad <| Ad <| Ag <| Fin.then <| Zs ?_
 refine Za ?_
 refine Zx <| DC.ret ?_
 refine Fin.weak (E' := [(2, _)]) ⟨rfl, trivial⟩ .nil ?_
 refine Zh ?_
 have hie : i = es.length := by simp at c4; omega
 subst hie
 refine ⟨rfl, true, rfl, by simp; exact ⟨by simpa using k1_3, by simpa using k1_8, by simp at c1; omega, fun j e hj => hok j e (Q9.1 hj).1 hj, fun j a b ha hb => hup j a b (Q9.1 hb).1 ha hb⟩⟩
abbrev AV (w : World) := AdjV w 234 3
section
variable {N : Int} {es : List Pr} {M : AdjM} {p : Option Addr} {w : World}
theorem LT (h : AV w N es M p) : Calls Tryz.prog 158 #[.pointer p] w (Ret w [] fun v L => L = [] ∧ v = .int .i64 N) := by
 refine Ao (args := [_]) (L := []) Tryz.func158 rfl Tryz.ntmps158 rfl (Own.start _ _) ?_
 refine Zs ?_
 refine Za ?_
 refine Zx <| DC.seq <| Zs ?_
 refine Zm ?_
 refine Zo (Hn rfl rfl rfl Tryz.underlying200) ?_
 refine Zx ?_
 refine Zd (fun c1 => ?_) fun c1 => ?_
 ·cases h with
  | «at» hA hP => cases c1
  | nil hN he =>
  refine Zs ?_
  refine Za ?_
  refine Zx <| DC.ret <| Aa ?_
  refine Zh ?_
  subst hN; exact ⟨rfl, rfl⟩
 cases h with
 | nil hN he => cases c1
 | «at» hA hP =>
 have hlo := hP.vld.lo
 have hhi := hP.vld.hi
 have hsl := hP.stl
 refine DC.skip <| Fin.then <| Zs ?_
 refine Zm ?_
 refine Zo (AA rfl rfl) ?_
 refine Zf Cu ?_
 refine Zu (Ak rfl rfl BS (AH hA.hp rfl)) ?_
 refine Zn Rt ?_
 refine Zo (Ce rfl rfl rfl (by omega)) ?_
 refine Za ?_
 refine Zx <| DC.ret ?_
 refine Zh ?_
 exact ⟨rfl, by congr 1; omega⟩
theorem OY (h : AV w N es M p) : Calls Tryz.prog 201 #[.pointer p] w (Ret w [] fun v L => L = [] ∧ v = .int .i64 es.length) := by
 refine Ao (args := [_]) (L := []) Tryz.func201 rfl Tryz.ntmps201 rfl (Own.start _ _) ?_
 refine Zs ?_
 refine Za ?_
 refine Zx <| DC.seq <| Zs ?_
 refine Zm ?_
 refine Zo (Hn rfl rfl rfl Tryz.underlying200) ?_
 refine Zx ?_
 refine Zd (fun c1 => ?_) fun c1 => ?_
 ·cases h with
  | «at» hA hP => cases c1
  | nil hN he =>
  refine Zs ?_
  refine Za ?_
  refine Zx <| DC.ret <| Aa ?_
  refine Zh ?_
  subst he; exact ⟨rfl, rfl⟩
 cases h with
 | nil hN he => cases c1
 | «at» hA hP =>
 have hlo := hP.vld.few
 have hsl := hP.fr
 have hfl : M.fr.length = es.length * 2 := by rw [hsl, Bp]
 refine DC.skip <| Fin.then <| Zs ?_
 refine Zm ?_
 refine Zo (AA rfl rfl) ?_
 refine Zf C1 ?_
 refine Zu (Ak rfl rfl BS (AH hA.hp rfl)) ?_
 refine Zn Rt ?_
 refine Zo (Nb rfl rfl rfl (by omega) (by omega)) ?_
 refine Za ?_
 refine Zx <| DC.ret ?_
 refine Zh ?_
 exact ⟨rfl, by congr 1; omega⟩
theorem HN (h : AV w N es M p) (x : Int) : Calls Tryz.prog 192 #[.pointer p, .int .i64 x] w (Ret w [] fun v L => L = [] ∧ v = .bool (decide (0 ≤ x ∧ x < N))) := by
 refine Ao (args := [_, _]) (L := []) Tryz.func192 rfl Tryz.ntmps192 rfl (Own.start _ _) ?_
 refine Zs ?_
 refine Za ?_
 refine Zx <| Zs ?_
 refine Zm ?_
 refine Zo (Ck rfl rfl rfl) ?_
 refine Zm ?_
 refine Seq.split 7 rfl (fun k1_2 => ?_) (fun k1_2 => ?_)
 ·refine Zm ?_
  refine Zm ?_
  refine Seq.rel0 rfl rfl (Am O2 rfl rfl rfl (fun w' hw => LT (h.keep hw))) ?_
  rintro _ rfl
  refine Zc ?_
  refine Zt ?_
  refine Za ?_
  refine Zx <| DC.ret ?_
  refine Zh ?_
  exact ⟨rfl, by simp at k1_2; simp [k1_2]⟩
 iterate 4 refine Zk ?_
 refine Zg ?_
 refine Za ?_
 refine Zx <| DC.ret ?_
 refine Zh ?_
 exact ⟨rfl, by simp at k1_2; simp; omega⟩
theorem Et (h : AV w N es M p) (x : Int) : Calls Tryz.prog 195 #[.pointer p, .int .i64 x] w (Ret w [] fun v L => L = [] ∧ v = .bool (decide (0 ≤ x ∧ x < es.length * 2))) := by
 have hfew := h.vld.few
 refine Ao (args := [_, _]) (L := []) Tryz.func195 rfl Tryz.ntmps195 rfl (Own.start _ _) ?_
 refine Zs ?_
 refine Za ?_
 refine Zx <| Zs ?_
 refine Zm ?_
 refine Zo (Ck rfl rfl rfl) ?_
 refine Zm ?_
 refine Seq.split 7 rfl (fun k1_2 => ?_) (fun k1_2 => ?_)
 ·refine Zm ?_
  refine Zm ?_
  refine Seq.rel0 rfl rfl (Am Qt rfl rfl rfl (fun w' hw => OY (h.keep hw))) ?_
  rintro _ rfl
  refine Zo (Ch rfl rfl rfl (by omega)) ?_
  refine Zc ?_
  refine Zt ?_
  refine Za ?_
  refine Zx <| DC.ret ?_
  refine Zh ?_
  exact ⟨rfl, by simp at k1_2; congr 1; rw [decide_eq_decide]; omega⟩
 iterate 5 refine Zk ?_
 refine Zg ?_
 refine Za ?_
 refine Zx <| DC.ret ?_
 refine Zh ?_
 exact ⟨rfl, by simp at k1_2; simp; omega⟩
/-- What leave answers: where the list of a vertex lies. -/
def LeaveV (N : Int) (es : List Pr) (M : AdjM) (x : Int) (v : Value) : Prop :=
 ∃ A cap, v = .slice A (outs es x).length cap ∧ (outs es x).length ≤ cap ∧ cap ≤ 9223372036854775807 ∧ (0 < (outs es x).length → ∃ s, 0 ≤ x ∧ x < N ∧ M.st[x.toNat]? = some s ∧ A = some ⟨M.g2, s.toNat, none⟩)
theorem Jk (h : AV w N es M p) (x : Int) : Calls Tryz.prog 179 #[.pointer p, .int .i64 x] w (Ret w [] fun v L => L = [] ∧ LeaveV N es M x v) := by
 have hfew := h.vld.few
 have hNhi := h.vld.hi
 refine Ao (args := [_, _]) (L := []) Tryz.func179 rfl Tryz.ntmps179 rfl (Own.start _ _) ?_
 refine Zs ?_
 refine Za ?_
 refine Zx <| DC.seq <| Zs ?_
 iterate 2 refine Zm ?_
 refine Seq.rel0 rfl rfl (Am Qy rfl rfl rfl (fun w' hw => HN (h.keep hw) x)) ?_
 rintro _ rfl
 refine Zo (Bb rfl rfl) ?_
 refine Zx ?_
 refine Zd (fun c1 => ?_) fun c1 => ?_
 ·refine Zs ?_
  refine Za ?_
  refine Zx <| DC.ret <| Aa ?_
  refine Zh ?_
  have h0 := Gq h.vld (v := x) (by simp at c1; omega)
  exact ⟨rfl, none, 0, by rw [h0]; rfl, by simp [h0], by omega, by simp [h0]⟩
 have hx : 0 ≤ x ∧ x < N := by simpa using c1
 cases h with
 | nil hN he => omega
 | «at» hA hP =>
 obtain ⟨hx0, hx1⟩ := hx
 obtain ⟨vx, rfl⟩ := Rj hx0
 have hstl := hP.stl
 have houl := hP.oul
 obtain ⟨s, hs⟩ : ∃ s, M.st[vx]? = some s := ⟨_, Q8 (by omega)⟩
 have hs2 := hP.stn vx s hx1 hs
 have b1 := hP.bd _ _ hs
 have b2 := hP.bd _ _ hs2
 obtain ⟨sn, rfl⟩ := Rj b1.1
 refine DC.skip <| Fin.then <| DC.seq ?_
 refine AC (cl := [.q, .q, .q, .v, .q, .q, .q, .v, .q, .q, .v, .q, .q, .q, .v, .q, .q, .q, .v, .q, .q]) (A := [0, 1, 3, 7, 0, 16, 48, 112, 0, 496, 1008, 0, 2048, 6144, 14336, 0, 32768, 129024, 260096, 524287, 1048575]) (order := [0, 1, 2, 3, 4, 5, 6, 7, 8, 9, 10, 11, 12, 13, 14, 15, 16, 17, 18, 19, 20]) [] mixed (by kernel_rfl) (fun w hw => hw.pick .nil) ?_
 refine Ym ?_
 refine Yo rfl (AA rfl rfl) ?_
 refine Yf FV ?_
 refine Ar rfl rfl rfl rfl (Ak rfl rfl BS (AH hA.hp rfl)) ?_
 refine Ym ?_
 refine Yo rfl (AA rfl rfl) ?_
 refine Yf Cu ?_
 refine Ar rfl rfl rfl rfl (Ak rfl rfl BS (AH hA.hp rfl)) ?_
 refine Ym ?_
 refine Yo rfl (Aw rfl rfl rfl Rt AN (by omega) (by omega) (by first | exact Az _ _ | exact AS _ _ _ | rfl)) ?_
 refine Ar rfl rfl rfl rfl (Ak rfl rfl AJ (AH hA.h1 (Bz hs))) ?_
 refine Ym ?_
 refine Yo rfl (AA rfl rfl) ?_
 refine Yf Cu ?_
 refine Ar rfl rfl rfl rfl (Ak rfl rfl BS (AH hA.hp rfl)) ?_
 refine Ym ?_
 refine Yo rfl (CB rfl rfl rfl (by omega)) ?_
 refine Yo rfl (Aw rfl rfl rfl Rt AN (by omega) (by omega) (by first | exact Az _ _ | exact AS _ _ _ | rfl)) ?_
 refine Ar rfl rfl rfl rfl (Ak rfl rfl AJ (AH hA.h1 (Bz hs2))) ?_
 refine Yo rfl (Oz (lo := sn) (hi := sn + (outs es vx).length) rfl rfl rfl rfl Rt AN (by omega) (by omega)) ?_
 refine Yo rfl (AF rfl rfl) ?_
 refine Flow.end rfl ?_
 simp only [zq, zr]
 refine Fin.then <| DC.ret ?_
 refine Zh ?_
 refine ⟨rfl, _, _, by rw [show sn + (outs es (vx : Int)).length - sn = (outs es (vx : Int)).length by omega], by omega, by omega, fun hpos => ⟨sn, hx0, hx1, hs, ?_⟩⟩
 rw [if_neg (by omega)]
 simp [AS]
theorem Cj (h : AV w N es M p) (x : Int) : Calls Tryz.prog 159 #[.pointer p, .int .i64 x] w (Ret w [] fun v L => L = [] ∧ v = .int .i64 (outs es x).length) := by
 refine Ao (args := [_, _]) (L := []) Tryz.func159 rfl Tryz.ntmps159 rfl (Own.start _ _) ?_
 refine Zs ?_
 refine Za ?_
 refine Zx <| Zs ?_
 iterate 2 refine Zm ?_
 refine Seq.rel0 rfl rfl (Am QA rfl rfl rfl (fun w' hw => Jk (h.keep hw) x)) ?_
 rintro _ ⟨A, cap, rfl, hcap, hmax, hA⟩
 refine Zn Rt ?_
 refine Za ?_
 refine Zx <| DC.ret ?_
 refine Zh ?_
 exact ⟨rfl, rfl⟩
theorem BO (h : AV w N es M p) (x : Int) : Calls Tryz.prog 182 #[.pointer p, .int .i64 x] w (Ret w [] fun v L => L = [] ∧ v = .int .i64 (fromV es x)) := by
 refine Ao (args := [_, _]) (L := []) Tryz.func182 rfl Tryz.ntmps182 rfl (Own.start _ _) ?_
 refine Zs ?_
 refine Za ?_
 refine Zx <| DC.seq <| Zs ?_
 iterate 2 refine Zm ?_
 refine Seq.rel0 rfl rfl (Am NM rfl rfl rfl (fun w' hw => Et (h.keep hw) x)) ?_
 rintro _ rfl
 refine Zo (Bb rfl rfl) ?_
 refine Zx ?_
 refine Zd (fun c1 => ?_) fun c1 => ?_
 ·refine Zs ?_
  refine Za ?_
  refine Zx <| DC.ret <| Aa ?_
  refine Zh ?_
  exact ⟨rfl, by rw [HB es (by simp at c1; omega)]⟩
 have hx : 0 ≤ x ∧ x < es.length * 2 := by simpa using c1
 cases h with
 | nil hN he => subst he; simp at hx; omega
 | «at» hA hP =>
 have hfl : M.fr.length = es.length * 2 := by rw [hP.fr, Bp]
 obtain ⟨y, hy, hf⟩ := EP es hx.1 hx.2
 rw [← hP.fr] at hy
 refine DC.skip <| Fin.then <| Zs ?_
 refine Zm ?_
 refine Zo (AA rfl rfl) ?_
 refine Zf C1 ?_
 refine Zu (Ak rfl rfl BS (AH hA.hp rfl)) ?_
 refine Zm ?_
 refine Zi Rt AN ?_
 refine Zu (Ak rfl rfl AJ (AH hA.h0 (Bz hy))) ?_
 refine Za ?_
 refine Zx <| DC.ret ?_
 refine Zh ?_
 exact ⟨rfl, by rw [hf]⟩
theorem CV (h : AV w N es M p) (x : Int) : Calls Tryz.prog 181 #[.pointer p, .int .i64 x] w (Ret w [] fun v L => L = [] ∧ v = .int .i64 (toV es x)) := by
 have hfew := h.vld.few
 refine Ao (args := [_, _]) (L := []) Tryz.func181 rfl Tryz.ntmps181 rfl (Own.start _ _) ?_
 refine Zs ?_
 refine Za ?_
 refine Zx <| DC.seq <| Zs ?_
 iterate 2 refine Zm ?_
 refine Seq.rel0 rfl rfl (Am NM rfl rfl rfl (fun w' hw => Et (h.keep hw) x)) ?_
 rintro _ rfl
 refine Zo (Bb rfl rfl) ?_
 refine Zx ?_
 refine Zd (fun c1 => ?_) fun c1 => ?_
 ·refine Zs ?_
  refine Za ?_
  refine Zx <| DC.ret <| Aa ?_
  refine Zh ?_
  exact ⟨rfl, by rw [Ol es (by simp at c1; omega)]⟩
 have hx : 0 ≤ x ∧ x < es.length * 2 := by simpa using c1
 cases h with
 | nil hN he => subst he; simp at hx; omega
 | «at» hA hP =>
 have hfl : M.fr.length = es.length * 2 := by rw [hP.fr, Bp]
 have htw := IK hx.1 hx.2
 obtain ⟨y, hy, hf⟩ := EP es htw.1 htw.2
 rw [← hP.fr] at hy
 have htw' := htw
 unfold tw at htw'
 refine DC.skip <| Fin.then <| Zs ?_
 refine Zm ?_
 refine Zo (AA rfl rfl) ?_
 refine Zf C1 ?_
 refine Zu (Ak rfl rfl BS (AH hA.hp rfl)) ?_
 refine Zm ?_
 refine Zo (H1 rfl rfl rfl (by omega)) ?_
 refine Zo (Aw (ad' := ⟨M.g0, (tw x).toNat, none⟩) rfl rfl rfl Rt AN htw'.1 (by have := htw'.2; omega) (by rw [Az]; simp [tw])) ?_
 refine Zu (Ak rfl rfl AJ (AH hA.h0 (Bz hy))) ?_
 refine Za ?_
 refine Zx <| DC.ret ?_
 refine Zh ?_
 exact ⟨rfl, by unfold toV; rw [if_pos hx.1, hf]⟩
theorem J3 (h : AV w N es M p) (x : Int) : Calls Tryz.prog 193 #[.pointer p, .int .i64 x] w (Ret w [] fun v L => L = [] ∧ v = .int .i64 ((outs es x)[0]?.getD (-1))) := by
 have hfew := h.vld.few
 refine Ao (args := [_, _]) (L := []) Tryz.func193 rfl Tryz.ntmps193 rfl (Own.start _ _) ?_
 refine Zs ?_
 refine Za ?_
 refine Zx <| DC.seq <| Zs ?_
 iterate 2 refine Zm ?_
 refine Seq.rel0 rfl rfl (Am JE rfl rfl rfl (fun w' hw => Cj (h.keep hw) x)) ?_
 rintro _ rfl
 refine Zo (AW rfl rfl rfl) ?_
 refine Zx ?_
 refine Zd (fun c1 => ?_) fun c1 => ?_
 ·refine Zs ?_
  refine Za ?_
  refine Zx <| DC.ret <| Aa ?_
  refine Zh ?_
  have h0 : outs es x = [] := by simpa using c1
  exact ⟨rfl, by rw [h0]; rfl⟩
 have h0 : outs es x ≠ [] := by simpa using c1
 have hx : 0 ≤ x ∧ x < N := Classical.byContradiction fun hn => h0 (Gq h.vld hn)
 cases h with
 | nil hN he => omega
 | «at» hA hP =>
 obtain ⟨hx0, hx1⟩ := hx
 obtain ⟨vx, rfl⟩ := Rj hx0
 have hstl := hP.stl
 have houl := hP.oul
 have hlen : 0 < (outs es vx).length := List.length_pos_iff.2 h0
 obtain ⟨s, hs⟩ : ∃ s, M.st[vx]? = some s := ⟨_, Q8 (by omega)⟩
 have b1 := hP.bd _ _ hs
 obtain ⟨sn, rfl⟩ := Rj b1.1
 obtain ⟨y, hy⟩ : ∃ y, (outs es (vx : Int))[0]? = some y := ⟨_, Q8 hlen⟩
 obtain ⟨ho, _⟩ := hP.ou vx _ hx1 hs 0 y hy
 have hin := (Q9.1 ho).1
 simp only [Rb, Nat.add_zero] at ho hin
 refine DC.skip <| Fin.then <| DC.seq ?_
 refine AC (cl := [.q, .q, .q, .v, .q, .q, .q, .v, .q, .q, .v, .q, .v, .q]) (A := [0, 1, 3, 7, 0, 16, 48, 112, 0, 496, 1008, 2047, 4095, 8191]) (order := [0, 1, 2, 3, 4, 5, 6, 7, 8, 9, 10, 11, 12, 13]) [] mixed (by kernel_rfl) (fun w hw => hw.pick .nil) ?_
 refine Ym ?_
 refine Yo rfl (AA rfl rfl) ?_
 refine Yf FV ?_
 refine Ar rfl rfl rfl rfl (Ak rfl rfl BS (AH hA.hp rfl)) ?_
 refine Ym ?_
 refine Yo rfl (AA rfl rfl) ?_
 refine Yf Cu ?_
 refine Ar rfl rfl rfl rfl (Ak rfl rfl BS (AH hA.hp rfl)) ?_
 refine Ym ?_
 refine Yo rfl (Aw rfl rfl rfl Rt AN (by omega) (by omega) (by first | exact Az _ _ | exact AS _ _ _ | rfl)) ?_
 refine Ar rfl rfl rfl rfl (Ak rfl rfl AJ (AH hA.h1 (Bz hs))) ?_
 refine Yo rfl (Aw rfl rfl rfl Rt AN (by omega) (by omega) (by first | exact Az _ _ | exact AS _ _ _ | rfl)) ?_
 refine Ar rfl rfl rfl rfl (Ak rfl rfl AJ (AH hA.h2 (Bz ho))) ?_
 refine Yo rfl (AF rfl rfl) ?_
 refine Flow.end rfl ?_
 simp only [zq, zr]
 refine Fin.then <| DC.ret ?_
 refine Zh ?_
 exact ⟨rfl, by rw [hy]; rfl⟩
theorem J6 (h : AV w N es M p) (x : Int) : Calls Tryz.prog 194 #[.pointer p, .int .i64 x] w (Ret w [] fun v L => L = [] ∧ ∃ r, v = .int .i64 r ∧
  (∀ (u : Int) (k : Nat), (outs es u)[k]? = some x → r = (outs es u)[k + 1]?.getD (-1)) ∧ (¬ (0 ≤ x ∧ x < es.length * 2) → r = -1)) := by
 have hfew := h.vld.few
 refine Ao (args := [_, _]) (L := []) Tryz.func194 rfl Tryz.ntmps194 rfl (Own.start _ _) ?_
 refine Zs ?_
 refine Za ?_
 refine Zx <| DC.seq <| Zs ?_
 iterate 2 refine Zm ?_
 refine Seq.rel0 rfl rfl (Am NM rfl rfl rfl (fun w' hw => Et (h.keep hw) x)) ?_
 rintro _ rfl
 refine Zo (Bb rfl rfl) ?_
 refine Zx ?_
 refine Zd (fun c1 => ?_) fun c1 => ?_
 ·refine Zs ?_
  refine Za ?_
  refine Zx <| DC.ret <| Aa ?_
  refine Zh ?_
  have hx : ¬ (0 ≤ x ∧ x < es.length * 2) := by simp at c1; omega
  refine ⟨rfl, -1, rfl, fun u k hk => ?_, fun _ => rfl⟩
  have := (Bh h.vld).1 (Rc hk)
  exact absurd ⟨this.1, this.2.1⟩ hx
 have hx : 0 ≤ x ∧ x < es.length * 2 := by simpa using c1
 cases h with
 | nil hN he => subst he; simp at hx; omega
 | «at» hA hP =>
 have hfl : M.fr.length = es.length * 2 := by rw [hP.fr, Bp]
 have hstl := hP.stl
 have houl := hP.oul
 have hpll := hP.pll
 have hhi := hP.vld.hi
 obtain ⟨y, hy, hf⟩ := EP es hx.1 hx.2
 rw [← hP.fr] at hy
 have hmem := (Bh hP.vld).2 ⟨hx.1, hx.2, hf⟩
 obtain ⟨k, hk⟩ := List.getElem?_of_mem hmem
 have hyr : 0 ≤ y ∧ y < N := Classical.byContradiction fun hn => by rw [Gq hP.vld hn] at hk; simp at hk
 obtain ⟨vx, rfl⟩ := Rj hyr.1
 obtain ⟨s, hs⟩ : ∃ s, M.st[vx]? = some s := ⟨_, Q8 (by omega)⟩
 have hs2 := hP.stn vx s hyr.2 hs
 have b1 := hP.bd _ _ hs
 have b2 := hP.bd _ _ hs2
 obtain ⟨sn, rfl⟩ := Rj b1.1
 obtain ⟨ho, hpl⟩ := hP.ou vx _ hyr.2 hs k x hk
 have hkl := (Q9.1 hk).1
 have huniq : ∀ (u : Int) (j : Nat), (outs es u)[j]? = some x → u = vx ∧ j = k := by
  intro u j hj
  have hu := (Bh hP.vld).1 (Rc hj)
  have : u = vx := by rw [← hu.2.2, hf]
  subst this
  have h2 := (hP.ou vx _ hyr.2 hs j x hj).2
  rw [hpl] at h2
  have := Option.some.inj h2
  exact ⟨rfl, by omega⟩
 refine DC.skip <| Fin.then <| Zs ?_
 refine Zm ?_
 refine Zo (AA rfl rfl) ?_
 refine Zf LJ ?_
 refine Zu (Ak rfl rfl BS (AH hA.hp rfl)) ?_
 refine Zm ?_
 refine Zi Rt AN ?_
 refine Zu (Ak rfl rfl AJ (AH hA.h3 (Bz hpl))) ?_
 refine Zp ?_
 refine Za ?_
 refine Zx <| DC.seq <| DC.seq ?_
 refine AC (cl := [.q, .q, .q, .q, .v, .q, .q, .q, .v, .q, .q, .v, .q, .q, .v, .q]) (A := [0, 0, 2, 6, 14, 0, 32, 96, 224, 0, 992, 2016, 4064, 8190, 16382, 32767]) (order := [0, 1, 2, 3, 4, 5, 6, 7, 8, 9, 10, 11, 12, 13, 14, 15]) [] mixed (by kernel_rfl) (fun w hw => hw.pick .nil) ?_
 iterate 2 refine Ym ?_
 refine Yo rfl (AA rfl rfl) ?_
 refine Yf Cu ?_
 refine Ar rfl rfl rfl rfl (Ak rfl rfl BS (AH hA.hp rfl)) ?_
 refine Ym ?_
 refine Yo rfl (AA rfl rfl) ?_
 refine Yf C1 ?_
 refine Ar rfl rfl rfl rfl (Ak rfl rfl BS (AH hA.hp rfl)) ?_
 refine Ym ?_
 refine Yo rfl (Aw rfl rfl rfl Rt AN (by omega) (by omega) (by first | exact Az _ _ | exact AS _ _ _ | rfl)) ?_
 refine Ar rfl rfl rfl rfl (Ak rfl rfl AJ (AH hA.h0 (Bz hy))) ?_
 refine Yo rfl (CB rfl rfl rfl (by omega)) ?_
 refine Yo rfl (Aw rfl rfl rfl Rt AN (by omega) (by omega) (by first | exact Az _ _ | exact AS _ _ _ | rfl)) ?_
 refine Ar rfl rfl rfl rfl (Ak rfl rfl AJ (AH hA.h1 (Bz hs2))) ?_
 refine Yo rfl (Ck rfl rfl rfl) ?_
 refine Flow.end rfl ?_
 simp only [zq, zr]
 refine Fin.then ?_
 refine Zd (fun c4 => ?_) fun c4 => ?_
 ·refine Zs ?_
  refine Za ?_
  refine Zx <| DC.ret <| Aa ?_
  refine Zh ?_
  have hlast : k + 1 = (outs es (vx : Int)).length := by simp at c4; omega
  refine ⟨rfl, -1, rfl, fun u j hj => ?_, fun hn => absurd hx hn⟩
  obtain ⟨rfl, rfl⟩ := huniq u j hj
  rw [Rq (by omega)]; rfl
 have hnl : k + 1 < (outs es (vx : Int)).length := by simp at c4; omega
 obtain ⟨z, hz⟩ : ∃ z, (outs es (vx : Int))[k + 1]? = some z := ⟨_, Q8 hnl⟩
 obtain ⟨ho2, _⟩ := hP.ou vx _ hyr.2 hs (k + 1) z hz
 have hin := (Q9.1 ho2).1
 simp only [Rb] at ho2 hin
 refine DC.skip <| Fin.then <| Zs ?_
 refine Zm ?_
 refine Zo (AA rfl rfl) ?_
 refine Zf FV ?_
 refine Zu (Ak rfl rfl BS (AH hA.hp rfl)) ?_
 refine Zm ?_
 refine Zo (Aw (ad' := ⟨M.g2, sn + (k + 1), none⟩) rfl rfl rfl Rt AN (by omega) (by omega) (by rw [Az]; first | rfl | (congr 1; omega))) ?_
 refine Zu (Ak rfl rfl AJ (AH hA.h2 (Bz ho2))) ?_
 refine Za ?_
 refine Zx <| DC.ret ?_
 refine Zh ?_
 refine ⟨rfl, z, rfl, fun u j hj => ?_, fun hn => absurd hx hn⟩
 obtain ⟨rfl, rfl⟩ := huniq u j hj
 rw [hz]; rfl
end
end Go.Fl

namespace Go.Fl
open Go Go.Proofs
/-- What the closure of csr.New works on. -/
def putL (gn ga gp g0 g1 gx g2 g3 capx : Nat) (fr st nx ou pl : List Int) (sp : List Value) : List Chunk :=
 [blk gn 44 #[.slice (some ⟨gx, 0, none⟩) nx.length capx], blk ga 200 #[.pointer (some ⟨gp, 0, none⟩)], blk gp 234 #[sl g0 fr, sl g1 st, sl g2 ou, sl g3 pl],
   blk g0 3 (ints fr).toArray, blk gx 3 (ints nx ++ sp).toArray, blk g2 3 (ints ou).toArray, blk g3 3 (ints pl).toArray]
theorem Hm {gn ga gp g0 g1 gx g2 g3 capx : Nat} {fr st nx ou pl : List Int} {sp : List Value} {h u p : Int} {w : World}
  (hO : Own w (idsOf (putL gn ga gp g0 g1 gx g2 g3 capx fr st nx ou pl sp)) w (putL gn ga gp g0 g1 gx g2 g3 capx fr st nx ou pl sp))
  (h0 : 0 ≤ h) (hfr : fr[h.toNat]? = some u) (hu : 0 ≤ u) (hnx : nx[u.toNat]? = some p) (hp0 : 0 ≤ p) (hp1 : p.toNat < ou.length) (hh : h.toNat < pl.length) (hb : p < 9223372036854775807) :
  Calls Tryz.prog 157 #[.int .i64 h, .pointer (some ⟨gn, 0, none⟩), .pointer (some ⟨ga, 0, none⟩)] w
   (Ret w (idsOf (putL gn ga gp g0 g1 gx g2 g3 capx fr st nx ou pl sp)) fun v M => v = .tuple #[] ∧
    M = putL gn ga gp g0 g1 gx g2 g3 capx fr st (nx.set u.toNat (p + 1)) (ou.set p.toNat h) (pl.set h.toNat p) sp) := by
 have i1 := (Q9.1 hfr).1
 have i2 := (Q9.1 hnx).1
 refine Ao (args := [_, _, _]) Tryz.func157 rfl Tryz.ntmps157 rfl hO ?_
 unfold putL
 refine DC.seq ?_
 refine AC (cl := [.v, .v, .q, .q, .v, .q, .q, .v, .q, .v, .q]) (A := [0, 0, 2, 6, 14, 0, 62, 126, 255, 511, 1023]) (order := [0, 1, 2, 3, 4, 5, 6, 7, 8, 9, 10]) [] mixed (by kernel_rfl) (fun w hw => hw.pick .nil) ?_
 refine Yl BS ?_
 refine Yl DI ?_
 refine Yo rfl (AA rfl rfl) ?_
 refine Yf C1 ?_
 refine Yl BS ?_
 refine Ym ?_
 refine Yo rfl (Aw rfl rfl rfl Rt AN (by omega) (by omega) (by first | exact Az _ _ | exact AS _ _ _ | rfl)) ?_
 refine Ar rfl rfl rfl rfl (Ak rfl rfl AJ (A8 (Bz hfr))) ?_
 refine Yo rfl (Aw rfl rfl rfl Rt AN (by omega) (by omega) (by first | exact Az _ _ | exact AS _ _ _ | rfl)) ?_
 refine Ar rfl rfl rfl rfl (Ak rfl rfl AJ (A8 (Lh hnx))) ?_
 refine Yo rfl (AF rfl rfl) ?_
 refine Flow.end rfl ?_
 simp only [zq, zr]
 refine Fin.then <| DC.seq ?_
 refine AC (cl := [.v, .q, .q, .v, .q, .v, .q, .q, .v, .q, .q, .q, .q, .g, .q, .g]) (A := [0, 1, 3, 7, 0, 0, 32, 96, 224, 0, 0, 0, 1535, 5631, 16383, 32767]) (order := [0, 1, 2, 3, 4, 5, 6, 7, 8, 9, 10, 11, 12, 13, 14, 15]) [] mixed (by kernel_rfl) (fun w hw => hw.pick .nil) ?_
 refine Yl DI ?_
 refine Yo rfl (AA rfl rfl) ?_
 refine Yf FV ?_
 refine Yl BS ?_
 refine Ym ?_
 refine Yl DI ?_
 refine Yo rfl (AA rfl rfl) ?_
 refine Yf LJ ?_
 refine Yl BS ?_
 iterate 3 refine Ym ?_
 refine Yo rfl (Aw rfl rfl rfl Rt AN (by omega) (by omega) (by first | exact Az _ _ | exact AS _ _ _ | rfl)) ?_
 refine AD rfl rfl rfl rfl (AB (cs' := (ints (ou.set p.toNat h)).toArray) rfl rfl rfl AN rfl (by simpa using hp1) DM) (fun w hw => hw.pick (.nil)) ?_
 refine Yo rfl (Aw rfl rfl rfl Rt AN (by omega) (by omega) (by first | exact Az _ _ | exact AS _ _ _ | rfl)) ?_
 refine AD rfl rfl rfl rfl (AB (cs' := (ints (pl.set h.toNat p)).toArray) rfl rfl rfl AN rfl (by simpa using hh) DM) (fun w hw => hw.pick (.nil)) ?_
 refine Flow.end rfl ?_
 simp only [zq, zr]
 refine Fin.then ?_
 refine AC (cl := [.v, .v, .q, .q, .v, .q, .q, .v, .q, .v, .q, .q, .g]) (A := [0, 0, 2, 6, 14, 0, 62, 126, 255, 511, 1023, 2047, 4095]) (order := [0, 1, 2, 3, 4, 5, 6, 7, 8, 9, 10, 11, 12]) [] mixed (by kernel_rfl) (fun w hw => hw.pick .nil) ?_
 refine Yl BS ?_
 refine Yl DI ?_
 refine Yo rfl (AA rfl rfl) ?_
 refine Yf C1 ?_
 refine Yl BS ?_
 refine Ym ?_
 refine Yo rfl (Aw rfl rfl rfl Rt AN (by omega) (by omega) (by first | exact Az _ _ | exact AS _ _ _ | rfl)) ?_
 refine Ar rfl rfl rfl rfl (Ak rfl rfl AJ (A8 (Bz hfr))) ?_
 refine Yo rfl (Aw rfl rfl rfl Rt AN (by omega) (by omega) (by first | exact Az _ _ | exact AS _ _ _ | rfl)) ?_
 refine Ar rfl rfl rfl rfl (Ak rfl rfl AJ (A8 (Lh hnx))) ?_
 refine Yo rfl (CB rfl rfl rfl (by omega)) ?_
 refine Yo rfl (Aw rfl rfl rfl Rt AN (by omega) (by omega) (by first | exact Az _ _ | exact AS _ _ _ | rfl)) ?_
 refine AD rfl rfl rfl rfl (AB (cs' := (ints (nx.set u.toNat (p + 1)) ++ sp).toArray) rfl rfl rfl AN rfl (by simp; omega) (Lg i2)) (fun w hw => hw.pick (.nil)) ?_
 refine Flow.end rfl ?_
 simp only [zq, zr]
 refine BL (.inr rfl) rfl ?_
 refine ⟨rfl, ?_⟩
 simp [putL, sl]
def adjL (M : AdjM) : List Chunk :=
 [blk M.gp 234 #[sl M.g0 M.fr, sl M.g1 M.st, sl M.g2 M.ou, sl M.g3 M.pl], blk M.g0 3 (ints M.fr).toArray, blk M.g1 3 (ints M.st).toArray, blk M.g2 3 (ints M.ou).toArray, blk M.g3 3 (ints M.pl).toArray]
def frT (es : List Pr) (i : Nat) : Nat → Int := fun h => if h < 2 * i then ((frs es)[h]?).getD 0 else 0
def stA (es : List Pr) (i : Nat) : Nat → Int := fun x => if x = 0 then 0 else cnt (es.take i) (x - 1)
def stB (es : List Pr) (v : Nat) : Nat → Int := fun x => if x ≤ v then pre es x else cnt es (x - 1)
def nxA (es : List Pr) (i : Nat) : Nat → Int := fun v => pre es v + loV es i v
def nxB (es : List Pr) (i : Nat) : Nat → Int := fun v => pre es v + loV es es.length v + loU es i v
structure NewI where
 i : Nat
 fo : Nat → Int
 fp : Nat → Int
theorem ND {es : List Pr} {i : Nat} {e : Pr} (he : es[i]? = some e) (h : Nat) : upd (upd (frT es i) (2 * i) e.1) (2 * i + 1) e.2 h = frT es (i + 1) h := by
 obtain ⟨f1, f2⟩ := Du he
 unfold upd frT
 by_cases a1 : h = 2 * i + 1
 ·subst a1; rw [if_pos rfl, if_pos (by omega), f2]; rfl
 rw [if_neg a1]
 by_cases a2 : h = 2 * i
 ·subst a2; rw [if_pos rfl, if_pos (by omega), f1]; rfl
 rw [if_neg a2]
 by_cases a3 : h < 2 * i
 ·rw [if_pos a3, if_pos (by omega)]
 rw [if_neg a3, if_neg (by omega)]
theorem MZ {es : List Pr} {i u v : Nat} (he : es[i]? = some ((u : Int), (v : Int))) (hne : u ≠ v) (x : Nat) :
  upd (upd (stA es i) (u + 1) (stA es i (u + 1) + 1)) (v + 1) (upd (stA es i) (u + 1) (stA es i (u + 1) + 1) (v + 1) + 1) x = stA es (i + 1) x := by
 have hc := fun y => GR he (by dsimp only; omega) y
 dsimp only at hc
 unfold upd stA
 match x with
 | 0 => rw [if_neg (by omega), if_neg (by omega)]; rfl
 | y + 1 =>
  simp only [hc, Nat.add_sub_cancel, if_neg (Nat.succ_ne_zero _)]
  by_cases a1 : y = v
  ·subst a1
   rw [if_pos rfl, if_neg (by omega), if_neg (show ¬ (u : Int) = y by omega), if_pos rfl]; omega
  by_cases a2 : y = u
  ·subst a2
   rw [if_neg (by omega), if_pos rfl, if_pos rfl, if_neg (by omega)]; omega
  rw [if_neg (by omega), if_neg (by omega), if_neg (by omega), if_neg (by omega)]; omega
theorem MY {es : List Pr} {v : Nat} (x : Nat) : upd (stB es v) (v + 1) (stB es v (v + 1) + stB es v v) x = stB es (v + 1) x := by
 unfold upd stB
 by_cases a1 : x = v + 1
 ·subst a1
  rw [if_pos rfl, if_neg (by omega), if_pos (Nat.le_refl _), if_pos (Nat.le_refl _)]
  show cnt es (v + 1 - 1) + pre es v = pre es v + cnt es v
  simp only [Nat.add_sub_cancel]; omega
 rw [if_neg a1]
 by_cases a2 : x ≤ v
 ·rw [if_pos a2, if_pos (by omega)]
 rw [if_neg a2, if_neg (by omega)]
theorem HK (N : Int) (es : List Pr) (A : Option Addr) (cap : Nat) (w : World) (hr : Rd w A (prs es)) (hl : es.length ≤ 9223372036854775807) :
  Calls Tryz.prog 125 #[.agg #[.int .i64 N, .slice A es.length cap]] w (Ret w [] fun v L =>
   (¬ Vld N es ∧ L = [] ∧ v = .tuple #[.pointer none, .int .i64 1]) ∨ (Vld N es ∧ ∃ M, AdjP N es M ∧ v = .tuple #[.pointer (some ⟨M.gp, 0, none⟩), .int .i64 0] ∧ L = adjL M)) := by
 refine Ao (args := [_]) (L := []) Tryz.func125 rfl Tryz.ntmps125 rfl (Own.start _ _) ?_
 refine Zs ?_
 refine Zw (AX rfl rfl rfl) fun g1 => ?_
 iterate 2 refine Za ?_
 refine Zx <| DC.seq <| Zs ?_
 refine Zu (Aq (vs := [_, _]) rfl rfl Bs Bd rfl (Ai rfl)) ?_
 refine Seq.rel0 rfl rfl (Am JD rfl rfl rfl (fun w' hw => DK N es A cap w' (hr.keep0 hw) hl)) ?_
 rintro _ ⟨b, rfl, hb⟩
 refine Zo (Bb rfl rfl) ?_
 refine Zx ?_
 refine Zd (fun c1 => ?_) fun c1 => ?_
 ·refine Zs ?_
  iterate 2 refine Za ?_
  refine Zx <| DC.ret <| Aa ?_
  refine Fin.weak (E' := [(2, _), (3, _)]) ⟨rfl, rfl, trivial⟩ .nil ?_
  refine AI (.inl rfl) rfl rfl rfl ?_
  exact .inl ⟨fun hV => (by rw [hb.2 hV] at c1; cases c1), rfl, rfl⟩
 have hV : Vld N es := hb.1 (by simpa using c1)
 have hN0 := hV.lo
 have hN1 := hV.hi
 have hfew := hV.few
 obtain ⟨Nn, rfl⟩ := Rj hN0
 have hNn : Nn ≤ 1048576 := by omega
 refine DC.skip <| Fin.then <| Zs ?_
 refine Zf Br ?_
 refine Zl B9 ?_
 refine Zn Ru ?_
 refine Za ?_
 refine Zx <| DC.seq ?_
 refine AC (cl := [.q, .q, .n, .q, .v, .q, .n, .q, .q, .n, .q, .q, .n, .q, .n, .n, .g]) (A := [0, 1, 3, 0, 8, 24, 56, 0, 128, 384, 0, 1024, 3072, 8191, 16383, 0, 65535]) (order := [0, 1, 3, 4, 5, 7, 8, 10, 11, 2, 6, 9, 12, 13, 14, 15, 16]) [] mixed (by kernel_rfl) (fun w hw => hw.pick .nil) ?_
 refine Ym ?_
 refine Yo rfl (Ch rfl rfl rfl (by omega)) ?_
 refine Yf Cs ?_
 refine Yl AJ ?_
 refine Yo rfl (CB rfl rfl rfl (by omega)) ?_
 refine Ym ?_
 refine Yo rfl (Ch rfl rfl rfl (by omega)) ?_
 refine Ym ?_
 refine Yo rfl (Ch rfl rfl rfl (by omega)) ?_
 refine Be rfl rfl rfl rfl (Cb (k := 2 * es.length) rfl rfl rfl Rt AN E5 Cg (by omega) (by omega) (by omega) (Ci _)) fun g21 => ?_
 refine Be rfl rfl rfl rfl (Cb (k := Nn + 1) rfl rfl rfl Rt AN E5 Cg (by omega) (by omega) (by omega) (Ci _)) fun g25 => ?_
 refine Be rfl rfl rfl rfl (Cb (k := 2 * es.length) rfl rfl rfl Rt AN E5 Cg (by omega) (by omega) (by omega) (Ci _)) fun g28 => ?_
 refine Be rfl rfl rfl rfl (Cb (k := 2 * es.length) rfl rfl rfl Rt AN E5 Cg (by omega) (by omega) (by omega) (Ci _)) fun g31 => ?_
 refine Yo rfl (As (cs := #[_, _, _, _]) rfl rfl Q0 rfl rfl) ?_
 refine Be rfl rfl rfl rfl (AX rfl rfl rfl) fun g33 => ?_
 refine Be rfl rfl rfl rfl (Ay rfl PO rfl) fun g5 => ?_
 refine Flow.sto (V := [blk g5 200 #[.pointer none], blk g33 234 _, blk g31 _ _, blk g28 _ _, blk g25 _ _, blk g21 _ _, blk g1 _ _]) rfl rfl rfl rfl rfl (AB (cs' := #[_]) rfl rfl rfl PY rfl (Ra rfl) rfl) (fun w hw => hw.pick (.nil)) ?_
 refine Flow.end rfl ?_
 simp only [zq, zr]
 refine Fin.then <| DC.seq <| Zs ?_
 refine Zf Br ?_
 refine Zl B9 ?_
 refine Zn Ru ?_
 refine Zm ?_
 refine Zx <| DC.block ?_
 refine DC.loop (ι := Nat) (fun i => i ≤ es.length)
  (fun i => [(1, .pointer (some ⟨g1, 0, none⟩)), (2, .pointer none), (3, .int .i64 0), (4, .int .i64 es.length), (5, .pointer (some ⟨g5, 0, none⟩)), (35, .slice A es.length cap), (36, .int .i64 es.length), (37, .int .i64 i)])
  (fun i => [blk g5 200 #[.pointer (some ⟨g33, 0, none⟩)], blk g33 234 #[sl g21 (tab (2 * es.length) fun _ => 0), sl g25 (tab (Nn + 1) fun _ => 0), sl g28 (tab (2 * es.length) fun _ => 0), sl g31 (tab (2 * es.length) fun _ => 0)],
   blk g31 3 (ints (tab (2 * es.length) fun _ => 0)).toArray, blk g28 3 (ints (tab (2 * es.length) fun _ => 0)).toArray, blk g25 3 (ints (tab (Nn + 1) (stA es i))).toArray, blk g21 3 (ints (tab (2 * es.length) (frT es i))).toArray, blk g1 24 #[.int .i64 (Nn : Int), .slice A es.length cap]])
  (fun i => es.length - i) 0 (Nat.zero_le _) ⟨rfl, rfl, rfl, rfl, rfl, rfl, rfl, rfl, trivial⟩
  (.cons 0 rfl (.cons' 0 rfl (by simp only [Ek]; rfl) (.cons 0 rfl (.cons 0 rfl (.cons' 0 rfl (CF fun x _ => by simp [stA, cnt, outs, outsF]) (.cons' 0 rfl (CF fun x _ => by simp [frT]) (.cons 0 rfl .nil))))))) ?_
 intro i hi
 simp only [Ek]
 refine Zs ?_
 refine Zc ?_
 refine Zx <| DC.seq ?_
 refine Zd (fun c6 => ?_) fun c6 => ?_
 ·have hlt : i < es.length := by simpa using c6
  obtain ⟨e, he⟩ : ∃ e, es[i]? = some e := ⟨_, Q8 hlt⟩
  obtain ⟨ad, rfl, hU, hVe⟩ := hr.pair he
  have ho := hV.ok i e he
  obtain ⟨u, hu⟩ := Rj ho.lo
  obtain ⟨v, hv⟩ := Rj (show 0 ≤ e.2 by have := ho.lo; have := ho.lt; omega)
  obtain rfl : e = ((u : Int), (v : Int)) := Prod.ext hu hv
  clear hu hv
  have huv : u < v := by have := ho.lt; simp at this; exact this
  have hvN : v < Nn := by have := ho.hi; simp at this; exact this
  replace hU : w.cell? (ad.add (i * 2)) = some (.int .i64 (u : Int)) := hU
  replace hVe : w.cell? (ad.add (i * 2 + 1)) = some (.int .i64 (v : Int)) := hVe
  refine DC.skip <| Fin.then <| DC.seq <| DC.block <| Zs ?_
  refine Zm ?_
  refine Zo (AT rfl rfl rfl Ru AP (by omega) (by omega) (by first | exact Az _ _ | exact AS _ _ _ | rfl)) ?_
  refine Zu (Aq (vs := [_, _]) rfl rfl BW AP rfl (CC hU hVe (by simp))) ?_
  refine Zw (Ay rfl B6 rfl) fun g7 => ?_
  refine Za ?_
  refine Zy (Ah (cs' := #[_, _]) rfl rfl rfl AP rfl (Ra rfl) rfl) ?_
  refine Zx <| DC.seq ?_
  refine AC (cl := [.v, .q, .q, .v, .q, .q, .v, .q, .q, .v, .q, .q, .q, .q, .v, .q, .q, .q, .g, .q, .g]) (A := [0, 1, 3, 7, 0, 16, 0, 64, 192, 448, 0, 1024, 3072, 0, 8192, 0, 32768, 25599, 156671, 524287, 1048575]) (order := [0, 1, 2, 3, 4, 5, 6, 7, 8, 9, 10, 11, 12, 13, 14, 15, 16, 17, 18, 19, 20]) ([blk g7 43 #[.int .i64 (u : Int), .int .i64 (v : Int)]]) mixed (by kernel_rfl) (fun w hw => hw.pick (.cons 0 rfl .nil)) ?_
  refine Yl DI ?_
  refine Yo rfl (AA rfl rfl) ?_
  refine Yf C1 ?_
  refine Yl BS ?_
  refine Ym ?_
  refine Yo rfl (Ch rfl rfl rfl (by omega)) ?_
  refine Yl DI ?_
  refine Yo rfl (AA rfl rfl) ?_
  refine Yf C1 ?_
  refine Yl BS ?_
  refine Ym ?_
  refine Yo rfl (Ch rfl rfl rfl (by omega)) ?_
  refine Yo rfl (CB rfl rfl rfl (by omega)) ?_
  refine Yf Bf ?_
  refine Yl AJ ?_
  refine Yf Bv ?_
  refine Flow.old rfl rfl rfl (Ak rfl rfl AJ (Bt rfl)) ?_
  refine Yo rfl (Aw (ad' := ⟨g21, 2 * i, none⟩) rfl rfl rfl Rt AN (by omega) (by omega) (by rw [Az]; rfl)) ?_
  refine AD rfl rfl rfl rfl (AB (cs' := (ints (tab (2 * es.length) (upd (frT es i) (2 * i) u))).toArray) rfl rfl rfl AN rfl (by simp; omega) BY) (fun w hw => hw.pick (.cons 0 rfl .nil)) ?_
  refine Yo rfl (Aw (ad' := ⟨g21, 2 * i + 1, none⟩) rfl rfl rfl Rt AN (by omega) (by omega) (by rw [Az]; rfl)) ?_
  refine AD rfl rfl rfl rfl (AB (cs' := (ints (tab (2 * es.length) (frT es (i + 1)))).toArray) rfl rfl rfl AN rfl (by simp; omega) (by rw [BY, Cl fun x _ => ND he x])) (fun w hw => hw.pick (.cons 0 rfl .nil)) ?_
  refine Flow.end rfl ?_
  simp only [zq, zr]
  refine Fin.then <| DC.seq ?_
  refine AC (cl := [.v, .q, .q, .v, .q, .v, .q, .q, .v, .q, .q, .g]) (A := [0, 1, 3, 7, 0, 16, 48, 127, 255, 511, 1023, 2047]) (order := [0, 1, 2, 3, 4, 5, 6, 7, 8, 9, 10, 11]) [] mixed (by kernel_rfl) (fun w hw => hw.pick .nil) ?_
  refine Yl DI ?_
  refine Yo rfl (AA rfl rfl) ?_
  refine Yf Cu ?_
  refine Yl BS ?_
  refine Yf Bf ?_
  refine Yl AJ ?_
  refine Yo rfl (CB rfl rfl rfl (by omega)) ?_
  refine Yo rfl (Aw (ad' := ⟨g25, u + 1, none⟩) rfl rfl rfl Rt AN (by omega) (by omega) (by rw [Az]; rfl)) ?_
  refine Ar rfl rfl rfl rfl (Ak rfl rfl AJ (A8 (Bm (by omega)))) ?_
  have hcb : 0 ≤ stA es i (u + 1) ∧ stA es i (u + 1) ≤ 8388608 := by
   simp only [stA, Nat.add_sub_cancel, if_neg (Nat.succ_ne_zero u)]
   have h1 := DA (es.take i) u
   have h2 := FN hV (u : Int) i (by omega)
   have h3 : loV es i u ≤ i := by unfold loV; have := List.countP_le_length (p := fun e : Pr => decide (e.2 = (u : Int))) (l := es.take i); simp at this; omega
   have h4 : loU es i u ≤ i := by unfold loU; have := List.countP_le_length (p := fun e : Pr => decide (e.1 = (u : Int))) (l := es.take i); simp at this; omega
   unfold cnt at *; omega
  refine Yo rfl (CB rfl rfl rfl (by omega)) ?_
  refine Yo rfl (Aw (ad' := ⟨g25, u + 1, none⟩) rfl rfl rfl Rt AN (by omega) (by omega) (by rw [Az]; rfl)) ?_
  refine AD rfl rfl rfl rfl (AB (cs' := (ints (tab (Nn + 1) (upd (stA es i) (u + 1) (stA es i (u + 1) + 1)))).toArray) rfl rfl rfl AN rfl (by simp; omega) BY) (fun w hw => hw.pick (.nil)) ?_
  refine Flow.end rfl ?_
  simp only [zq, zr]
  refine Fin.then ?_
  refine AC (cl := [.v, .q, .q, .v, .q, .v, .q, .q, .v, .q, .q, .g]) (A := [0, 1, 3, 7, 0, 16, 48, 127, 255, 511, 1023, 2047]) (order := [0, 1, 2, 3, 4, 5, 6, 7, 8, 9, 10, 11]) [] mixed (by kernel_rfl) (fun w hw => hw.pick .nil) ?_
  refine Yl DI ?_
  refine Yo rfl (AA rfl rfl) ?_
  refine Yf Cu ?_
  refine Yl BS ?_
  refine Yf Bv ?_
  refine Yl AJ ?_
  refine Yo rfl (CB rfl rfl rfl (by omega)) ?_
  refine Yo rfl (Aw (ad' := ⟨g25, v + 1, none⟩) rfl rfl rfl Rt AN (by omega) (by omega) (by rw [Az]; rfl)) ?_
  refine Ar rfl rfl rfl rfl (Ak rfl rfl AJ (A8 (Bm (by omega)))) ?_
  have hcv : 0 ≤ upd (stA es i) (u + 1) (stA es i (u + 1) + 1) (v + 1) ∧ upd (stA es i) (u + 1) (stA es i (u + 1) + 1) (v + 1) ≤ 8388608 := by
   unfold upd
   rw [if_neg (by omega)]
   simp only [stA, Nat.add_sub_cancel, if_neg (Nat.succ_ne_zero v)]
   have h1 := DA (es.take i) v
   have h2 := FN hV (v : Int) i (by omega)
   have h3 : loV es i v ≤ i := by unfold loV; have := List.countP_le_length (p := fun e : Pr => decide (e.2 = (v : Int))) (l := es.take i); simp at this; omega
   have h4 : loU es i v ≤ i := by unfold loU; have := List.countP_le_length (p := fun e : Pr => decide (e.1 = (v : Int))) (l := es.take i); simp at this; omega
   unfold cnt at *; omega
  refine Yo rfl (CB rfl rfl rfl (by omega)) ?_
  refine Yo rfl (Aw (ad' := ⟨g25, v + 1, none⟩) rfl rfl rfl Rt AN (by omega) (by omega) (by rw [Az]; rfl)) ?_
  refine AD rfl rfl rfl rfl (AB (cs' := (ints (tab (Nn + 1) (stA es (i + 1)))).toArray) rfl rfl rfl AN rfl (by simp; omega) (by rw [BY, Cl fun x _ => MZ he (by omega) x])) (fun w hw => hw.pick (.nil)) ?_
  refine Flow.end rfl ?_
  simp only [zq, zr]
  refine Fin.inBlock <| Fin.then <| DC.region ?_
  refine Zp ?_
  refine Zm ?_
  refine Seq.nil ?_
  refine Fin.again (i + 1) (by omega) (by omega) ⟨rfl, rfl, rfl, rfl, rfl, rfl, rfl, rfl, trivial⟩ (.cons 1 rfl (.cons' 1 rfl (by simp only [Ek]) (.cons 1 rfl (.cons 1 rfl (.cons 1 rfl (.cons 1 rfl (.cons 1 rfl .nil)))))))
 have hie : i = es.length := by simp at c6; omega
 subst hie
 refine DC.exit <| Ad <| Ad <| Ag <| Fin.then <| DC.seq <| Zs ?_
 refine Zf Cs ?_
 refine Zl AJ ?_
 refine Zm ?_
 refine Zx <| DC.block ?_
 refine DC.loop (ι := Nat) (fun v => v ≤ Nn)
  (fun v => [(2, .pointer none), (3, .int .i64 0), (4, .int .i64 es.length), (5, .pointer (some ⟨g5, 0, none⟩)), (85, .int .i64 (Nn : Int)), (86, .int .i64 v)])
  (fun v => [blk g5 200 #[.pointer (some ⟨g33, 0, none⟩)], blk g33 234 #[sl g21 (tab (2 * es.length) fun _ => 0), sl g25 (tab (Nn + 1) fun _ => 0), sl g28 (tab (2 * es.length) fun _ => 0), sl g31 (tab (2 * es.length) fun _ => 0)],
   blk g31 3 (ints (tab (2 * es.length) fun _ => 0)).toArray, blk g28 3 (ints (tab (2 * es.length) fun _ => 0)).toArray, blk g25 3 (ints (tab (Nn + 1) (stB es v))).toArray, blk g21 3 (ints (tab (2 * es.length) (frT es es.length))).toArray])
  (fun v => Nn - v) 0 (Nat.zero_le _) ⟨rfl, rfl, rfl, rfl, rfl, rfl, trivial⟩
  (.cons 0 rfl (.cons' 0 rfl (by simp only [Ek]) (.cons 0 rfl (.cons 0 rfl (.cons' 0 rfl (CF fun x _ => by
   unfold stA stB
   rw [List.take_length]
   by_cases h0 : x = 0
   ·subst h0; rfl
   rw [if_neg h0, if_neg (by omega)]) (.cons 0 rfl .nil)))))) ?_
 intro v hv
 simp only [Ek]
 refine Zs ?_
 refine Zc ?_
 refine Zx <| DC.seq ?_
 refine Zd (fun c13 => ?_) fun c13 => ?_
 ·have hlt : v < Nn := by simpa using c13
  refine DC.skip <| Fin.then <| DC.seq <| DC.block <| Zs ?_
  refine Zm ?_
  refine Za ?_
  refine Zx ?_
  refine AC (cl := [.v, .q, .q, .v, .q, .q, .q, .v, .v, .q, .q, .v, .q, .q, .v, .q, .q, .g]) (A := [0, 1, 3, 7, 0, 16, 63, 127, 0, 256, 768, 1792, 0, 7936, 16128, 32767, 65535, 131071]) (order := [0, 1, 2, 3, 4, 5, 6, 7, 8, 9, 10, 11, 12, 13, 14, 15, 16, 17]) [] mixed (by kernel_rfl) (fun w hw => hw.pick .nil) ?_
  refine Yl DI ?_
  refine Yo rfl (AA rfl rfl) ?_
  refine Yf Cu ?_
  refine Yl BS ?_
  refine Ym ?_
  refine Yo rfl (CB rfl rfl rfl (by omega)) ?_
  refine Yo rfl (Aw (ad' := ⟨g25, v + 1, none⟩) rfl rfl rfl Rt AN (by omega) (by omega) (by rw [Az]; rfl)) ?_
  refine Ar rfl rfl rfl rfl (Ak rfl rfl AJ (A8 (Bm (by omega)))) ?_
  refine Yl DI ?_
  refine Yo rfl (AA rfl rfl) ?_
  refine Yf Cu ?_
  refine Yl BS ?_
  refine Ym ?_
  refine Yo rfl (Aw rfl rfl rfl Rt AN (by omega) (by omega) (by first | exact Az _ _ | exact AS _ _ _ | rfl)) ?_
  refine Ar rfl rfl rfl rfl (Ak rfl rfl AJ (A8 (Bm (i := v) (by omega)))) ?_
  have hcb : 0 ≤ stB es v (v + 1) ∧ stB es v (v + 1) ≤ 8388608 ∧ 0 ≤ stB es v v ∧ stB es v v ≤ 8388608 := by
   unfold stB
   rw [if_neg (by omega), if_pos (Nat.le_refl _)]
   have h1 := Kk hV (v := v + 1) (by omega)
   have h2 : pre es (v + 1) = pre es v + cnt es v := rfl
   have h3 := Ca es v
   have h4 := DA es v
   simp only [Nat.add_sub_cancel]
   omega
  refine Yo rfl (CB rfl rfl rfl (by omega)) ?_
  refine Yo rfl (Aw (ad' := ⟨g25, v + 1, none⟩) rfl rfl rfl Rt AN (by omega) (by omega) (by rw [Az]; rfl)) ?_
  refine AD rfl rfl rfl rfl (AB (cs' := (ints (tab (Nn + 1) (stB es (v + 1)))).toArray) rfl rfl rfl AN rfl (by simp; omega) (by rw [BY, Cl fun x _ => MY x])) (fun w hw => hw.pick (.nil)) ?_
  refine Flow.end rfl ?_
  simp only [zq, zr]
  refine Fin.inBlock <| Fin.then <| DC.region ?_
  refine Zp ?_
  refine Zm ?_
  refine Seq.nil ?_
  refine Fin.again (v + 1) (by omega) (by omega) ⟨rfl, rfl, rfl, rfl, rfl, rfl, trivial⟩ (.cons 0 rfl (.cons' 0 rfl (by simp only [Ek]) (.cons 0 rfl (.cons 0 rfl (.cons 0 rfl (.cons 0 rfl .nil))))))
 have hve : v = Nn := by simp at c13; omega
 subst hve
 refine DC.exit <| Ad <| Ad <| Ag <| Fin.then <| Zs ?_
 refine Zw (AM (cs := #[]) rfl rfl Rt AN Cg rfl (by decide) (by decide) rfl rfl) fun g107 => ?_
 refine Zl DI ?_
 refine Zo (AA rfl rfl) ?_
 refine Zf Cu ?_
 refine Zl BS ?_
 refine Seq.gen rfl rfl (AR rfl rfl rfl Rt AN E5 Cg rfl (by decide) (by decide) (fun w hw => B3 (vs := []) rfl (by decide) (Nat.le_refl _) (by decide) rfl rfl hw) (.inl ⟨_, _, rfl, Mr⟩) (by simp) (BE _ []) (by simp; omega)) ?_
 rintro v112 _ rfl
 refine Seq.open (fun _ h => absurd (congrArg List.length h) (by simp)) ?_
 rintro gx len capx sp rfl hlen hlc hcm hcs
 obtain rfl : len = v + 1 := by simp at hlen; omega
 simp only [List.nil_append]
 refine Zw (Ay rfl DJ rfl) fun g9 => ?_
 refine Zy (AB (cs' := #[_]) rfl rfl rfl Cn rfl (Ra rfl) rfl) ?_
 refine Zx <| Zs ?_
 refine Zo (E9 rfl rfl rfl) ?_
 refine Za ?_
 refine Zx <| DC.seq <| Zs ?_
 iterate 2 refine Zm ?_
 refine Zx <| DC.block ?_
 refine DC.loop (ι := NewI) (fun s => s.i ≤ es.length ∧ Done es (fun h => h % 2 = 1 ∧ h / 2 < s.i) s.fo s.fp)
  (fun s => [(2, .pointer none), (3, .int .i64 0), (4, .int .i64 es.length), (5, .pointer (some ⟨g5, 0, none⟩)), (10, .func (.func 157) #[] #[.pointer (some ⟨g9, 0, none⟩), .pointer (some ⟨g5, 0, none⟩)]), (114, .int .i64 es.length), (115, .int .i64 s.i)])
  (fun s => putL g9 g5 g33 g21 g25 gx g28 g31 capx (tab (2 * es.length) (frT es es.length)) (tab (v + 1) (stB es v)) (tab (v + 1) (nxA es s.i)) (tab (2 * es.length) s.fo) (tab (2 * es.length) s.fp) sp ++ [blk g25 3 (ints (tab (v + 1) (stB es v))).toArray])
  (fun s => es.length - s.i) ⟨0, fun _ => 0, fun _ => 0⟩ ⟨Nat.zero_le _, fun v k h hk hD => by dsimp only at hD; have := ((Bh hV).1 (Rc hk)).1; omega⟩ ⟨rfl, rfl, rfl, rfl, rfl, rfl, rfl, trivial⟩
  (.cons' 0 rfl (by simp) (.cons' 1 rfl rfl (.cons' 1 rfl (by simp only [Ek]) (.cons' 4 rfl rfl (.cons' 0 rfl (DE fun x hx => by
   unfold stB nxA loV
   rw [if_pos (by omega)]; simp) (.cons' 1 rfl rfl (.cons' 0 rfl rfl (.cons' 0 rfl rfl .nil)))))))) ?_
 rintro ⟨i, fo, fp⟩ ⟨hi, hD⟩
 dsimp only at hi hD ⊢
 refine Zs ?_
 refine Zc ?_
 refine Zx <| DC.seq ?_
 refine Zd (fun c20 => ?_) fun c20 => ?_
 ·have hlt : i < es.length := by simpa using c20
  obtain ⟨e, he⟩ : ∃ e, es[i]? = some e := ⟨_, Q8 hlt⟩
  have ho := hV.ok i e he
  obtain ⟨x, hx⟩ := Rj (show 0 ≤ e.2 by have := ho.lo; have := ho.lt; omega)
  have hxN : x < v := by have := ho.hi; omega
  have hpos := Mh he (by have := ho.lt; omega)
  rw [hx] at hpos
  have hk := (Q9.1 hpos).1
  have hkl := FN hV (x : Int) i (by omega)
  have hz := No hV he
  rw [hx] at hz
  have hpl := Gi hV (v := x) (by omega) hk
  have hpn := Ca es x
  have hD' := Done.put hV hD hpos
  obtain ⟨p, hp⟩ : ∃ p, p = pre es x + ((outs (es.take i) (x : Int)).length : Int) := ⟨_, rfl⟩
  rw [← hp] at hD' hpl
  have hp0 : 0 ≤ p := by omega
  refine DC.skip <| Fin.then <| DC.seq <| DC.block <| Zs ?_
  refine Zm ?_
  refine Za ?_
  refine Zx <| DC.region ?_
  iterate 2 refine Zm ?_
  refine Zo (Ch rfl rfl rfl (by omega)) ?_
  refine Zp ?_
  refine Seq.gen rfl rfl (AQ O3 rfl rfl rfl (.refl _) (fun _ h => h) (fun w hw => Hm (h := 2 * (i : Int) + 1) (u := (x : Int)) (p := p) (hw.sub (List.sublist_append_left _ _)).self (by omega) (by
   have h1 : (2 * (i : Int) + 1).toNat = 2 * i + 1 := by omega
   rw [h1, BX _ (by omega)]; unfold frT; rw [if_pos (by omega), (Du he).2, hx]; rfl) (by omega) (by
   simp only [Rb]
   rw [BX _ (by omega)]; unfold nxA; rw [hp]; congr 1; omega) hp0 (by simp; omega) (by simp; omega) (by omega))) ?_
  rintro _ _ ⟨_, ⟨rfl, rfl⟩, rfl⟩
  refine Seq.nil <| Fin.inBlock <| Fin.then <| DC.region ?_
  refine Zp ?_
  refine Zm ?_
  refine Seq.nil ?_
  have e1 : (2 * (i : Int) + 1).toNat = 2 * i + 1 := by omega
  refine Fin.again (NewI.mk (i + 1) (upd fo p.toNat (2 * (i : Int) + 1)) (upd fp (2 * (i : Int) + 1).toNat p)) (by simp; omega) ⟨by simp; omega, hD'.imp fun y z hz hd => ?_⟩ ⟨rfl, rfl, rfl, rfl, rfl, rfl, rfl, trivial⟩
   (.cons' 0 rfl (by simp) (.cons' 0 rfl rfl (.cons' 0 rfl (by simp [sl]) (.cons' 0 rfl rfl (.cons' 0 rfl (by
    simp only [Rb, Dh]
    refine DE fun y hy => ?_
    unfold upd nxA
    rw [Gt he, hx]
    by_cases hyx : y = x
    ·subst hyx; rw [if_pos rfl, if_pos rfl]; omega
    rw [if_neg hyx, if_neg (by omega)]; omega) (.cons' 0 rfl (by rw [Dh]) (.cons' 0 rfl (by rw [Dh]) (.cons' 0 rfl rfl .nil))))))))
  by_cases h1 : z / 2 < i
  ·exact .inl ⟨hd.1, h1⟩
  exact .inr (by have := hd.1; have := hd.2; simp at this; omega)
 have hie : i = es.length := by simp at c20; omega
 subst hie
 refine DC.exit <| Ad <| Ad <| Ag <| Fin.then <| DC.seq <| Zs ?_
 iterate 2 refine Zm ?_
 refine Zx <| DC.block ?_
 refine DC.loop (ι := NewI) (fun s => s.i ≤ es.length ∧ Done es (fun h => h % 2 = 1 ∨ h / 2 < s.i) s.fo s.fp)
  (fun s => [(2, .pointer none), (3, .int .i64 0), (5, .pointer (some ⟨g5, 0, none⟩)), (10, .func (.func 157) #[] #[.pointer (some ⟨g9, 0, none⟩), .pointer (some ⟨g5, 0, none⟩)]), (124, .int .i64 es.length), (125, .int .i64 s.i)])
  (fun s => putL g9 g5 g33 g21 g25 gx g28 g31 capx (tab (2 * es.length) (frT es es.length)) (tab (v + 1) (stB es v)) (tab (v + 1) (nxB es s.i)) (tab (2 * es.length) s.fo) (tab (2 * es.length) s.fp) sp ++ [blk g25 3 (ints (tab (v + 1) (stB es v))).toArray])
  (fun s => es.length - s.i) ⟨0, fo, fp⟩ ⟨Nat.zero_le _, hD.imp fun y z hz hd => by dsimp only at hd; have := ((Bh hV).1 hz).2.1; have := ((Bh hV).1 hz).1; omega⟩ ⟨rfl, rfl, rfl, rfl, rfl, rfl, trivial⟩
  (.cons' 0 rfl (by simp) (.cons' 0 rfl rfl (.cons' 0 rfl rfl (.cons' 0 rfl rfl (.cons' 0 rfl (DE fun x hx => by
   unfold nxA nxB loU; simp) (.cons' 0 rfl rfl (.cons' 0 rfl rfl (.cons' 0 rfl rfl .nil)))))))) ?_
 rintro ⟨i, fo, fp⟩ ⟨hi, hD⟩
 dsimp only at hi hD ⊢
 refine Zs ?_
 refine Zc ?_
 refine Zx <| DC.seq ?_
 refine Zd (fun c25 => ?_) fun c25 => ?_
 ·have hlt : i < es.length := by simpa using c25
  obtain ⟨e, he⟩ : ∃ e, es[i]? = some e := ⟨_, Q8 hlt⟩
  have ho := hV.ok i e he
  obtain ⟨x, hx⟩ := Rj ho.lo
  have hxN : x < v := by have := ho.hi; have := ho.lt; omega
  have hpos := Mi he
  rw [hx] at hpos
  have hk := (Q9.1 hpos).1
  have hkl := FN hV (x : Int) i (by omega)
  have hz := OI hV he
  rw [hx] at hz
  have hpl := Gi hV (v := x) (by omega) hk
  have hpn := Ca es x
  have hD' := Done.put hV hD hpos
  obtain ⟨p, hp⟩ : ∃ p, p = pre es x + ((outs (es.take i) (x : Int)).length : Int) := ⟨_, rfl⟩
  rw [← hp] at hD' hpl
  have hp0 : 0 ≤ p := by omega
  refine DC.skip <| Fin.then <| DC.seq <| DC.block <| Zs ?_
  refine Zm ?_
  refine Za ?_
  refine Zx <| DC.region ?_
  iterate 2 refine Zm ?_
  refine Zo (Ch rfl rfl rfl (by omega)) ?_
  refine Seq.gen rfl rfl (AQ O3 rfl rfl rfl (.refl _) (fun _ h => h) (fun w hw => Hm (h := 2 * (i : Int)) (u := (x : Int)) (p := p) (hw.sub (List.sublist_append_left _ _)).self (by omega) (by
   have h1 : (2 * (i : Int)).toNat = 2 * i := by omega
   rw [h1, BX _ (by omega)]; unfold frT; rw [if_pos (by omega), (Du he).1, hx]; rfl) (by omega) (by
   simp only [Rb]
   rw [BX _ (by omega)]; unfold nxB; rw [hp]; congr 1; omega) hp0 (by simp; omega) (by simp; omega) (by omega))) ?_
  rintro _ _ ⟨_, ⟨rfl, rfl⟩, rfl⟩
  refine Seq.nil <| Fin.inBlock <| Fin.then <| DC.region ?_
  refine Zp ?_
  refine Zm ?_
  refine Seq.nil ?_
  refine Fin.again (NewI.mk (i + 1) (upd fo p.toNat (2 * (i : Int))) (upd fp (2 * (i : Int)).toNat p)) (by simp; omega) ⟨by simp; omega, hD'.imp fun y z hz hd => ?_⟩ ⟨rfl, rfl, rfl, rfl, rfl, rfl, trivial⟩
   (.cons' 0 rfl (by simp) (.cons' 0 rfl rfl (.cons' 0 rfl (by simp [sl]) (.cons' 0 rfl rfl (.cons' 0 rfl (by
    simp only [Rb, Dh]
    refine DE fun y hy => ?_
    unfold upd nxB
    rw [Jd he, hx]
    by_cases hyx : y = x
    ·subst hyx; rw [if_pos rfl, if_pos rfl]; omega
    rw [if_neg hyx, if_neg (by omega)]; omega) (.cons' 0 rfl (by rw [Dh]) (.cons' 0 rfl (by rw [Dh]) (.cons' 0 rfl rfl .nil))))))))
  rcases hd with hd | hd
  ·exact .inl (.inl hd)
  by_cases h1 : z / 2 < i
  ·exact .inl (.inr h1)
  by_cases h2 : z % 2 = 1
  ·exact .inl (.inl h2)
  exact .inr (by simp at hd; omega)
 have hie : i = es.length := by simp at c25; omega
 subst hie
 simp only [putL, List.cons_append, List.nil_append]
 refine DC.exit <| Ad <| Ad <| Ag <| Fin.then <| Zs ?_
 refine Zl DI ?_
 iterate 2 refine Za ?_
 refine Zx <| DC.ret ?_
 refine Fin.weak (E' := [(2, _), (3, _)]) (L' := adjL ⟨g33, g21, g25, g28, g31, tab (2 * es.length) (frT es es.length), tab (v + 1) (stB es v), tab (2 * es.length) fo, tab (2 * es.length) fp⟩) ⟨rfl, rfl, trivial⟩ (.cons 2 rfl (.cons 2 rfl (.cons 5 rfl (.cons 3 rfl (.cons 3 rfl .nil))))) ?_
 refine AI (.inl rfl) rfl rfl rfl ?_
 refine .inr ⟨hV, _, ⟨hV, ?_, by simp, ?_, ?_, by simp; omega, by simp; omega, ?_, ?_⟩, rfl, rfl⟩
 ·apply List.ext_getElem?
  intro j
  by_cases hj : j < 2 * es.length
  ·rw [BX _ hj]
   have : j < (frs es).length := by rw [Bp]; omega
   unfold frT
   rw [if_pos hj, Q8 this]; rfl
  rw [Rq (by simp; omega), Rq (by rw [Bp]; omega)]
 ·rw [BX _ (by omega)]; rfl
 ·intro x y hxN hy
  obtain ⟨hx1, rfl⟩ := F9 hy
  rw [BX _ (by omega)]
  unfold stB
  rw [if_pos (by omega), if_pos (by omega)]; rfl
 ·intro x y hxN hy k h hk
  obtain ⟨hx1, rfl⟩ := F9 hy
  have hm := (Bh hV).1 (Rc hk)
  have hkl := (Q9.1 hk).1
  have hpl := Gi hV hxN hkl
  have hpn := Ca es x
  obtain ⟨d1, d2⟩ := hD x k h hk (.inr (by omega))
  have hs : stB es v x = pre es x := by unfold stB; rw [if_pos (by omega)]
  rw [hs]
  have e1 : (pre es x).toNat + k = (pre es x + k).toNat := by omega
  refine ⟨?_, ?_⟩
  ·show (tab (2 * es.length) fo)[_]? = _
   rw [e1, BX _ (by omega), d1]
  show (tab (2 * es.length) fp)[_]? = _
  rw [BX _ (by omega), d2]
 intro x y hy
 obtain ⟨hx1, rfl⟩ := F9 hy
 have hs : stB es v x = pre es x := by unfold stB; rw [if_pos (by omega)]
 rw [hs]
 have := Ca es x
 have := Kk hV (v := x) (by omega)
 omega
def degA (es : List Pr) (i : Nat) : Nat → Int := fun x => cnt (es.take i) x
theorem Mz {es : List Pr} {i u v : Nat} (he : es[i]? = some ((u : Int), (v : Int))) (hne : u ≠ v) (x : Nat) :
  upd (upd (degA es i) u (degA es i u + 1)) v (upd (degA es i) u (degA es i u + 1) v + 1) x = degA es (i + 1) x := by
 have hc := GR he (by dsimp only; omega) x
 dsimp only at hc
 unfold degA
 rw [hc]
 unfold upd
 dsimp only
 by_cases a1 : x = v
 ·subst a1; rw [if_pos rfl, if_neg (Ne.symm hne), if_neg (by omega), if_pos rfl]; omega
 rw [if_neg a1]
 by_cases a2 : x = u
 ·subst a2; rw [if_pos rfl, if_pos rfl, if_neg (by omega)]; omega
 rw [if_neg a2, if_neg (by omega), if_neg (by omega)]; omega
theorem Fb : ∀ (es : List Pr) (k : Nat) (v : Int), (outsF k es v).length ≤ es.length
 | [], k, v => by simp [outsF]
 | e :: r, k, v => by
  unfold outsF
  have := Fb r (k + 1) v
  rw [List.length_append, List.length_cons]
  split
  ·simp; omega
  split <;> simp <;> omega
structure DegI where
 i : Nat
theorem Eh {N : Int} {es : List Pr} {va : Value} {w : World} (hg : PrV w va es) :
  Calls Tryz.prog 120 #[.agg #[.int .i64 N, va]] w (Ret w [] fun r L =>
   (Vld N es ∧ ∃ g, r = .tuple #[.slice (some ⟨g, 0, none⟩) N.toNat N.toNat, .int .i64 0] ∧ L = [blk g 3 (ints (tab N.toNat (fun v => cnt es v))).toArray]) ∨ (¬ Vld N es ∧ r = .tuple #[.slice none 0 0, .int .i64 1] ∧ L = [])) := by
 obtain ⟨A, cap, rfl, hr, hlc, hcm, hle⟩ := hg
 refine Ao (args := [_]) (L := []) Tryz.func120 rfl Tryz.ntmps120 rfl (Own.start _ _) ?_
 refine Zs ?_
 refine Zw (AX rfl rfl rfl) fun g1 => ?_
 iterate 2 refine Za ?_
 refine Zx <| DC.seq <| Zs ?_
 refine Zu (Aq (vs := [_, _]) rfl rfl Bs Bd rfl (Ai rfl)) ?_
 refine Seq.rel0 rfl rfl (Am JD rfl rfl rfl (fun w hw => DK N es A cap w (hr.keep0 hw) (by omega))) ?_
 rintro _ ⟨b, rfl, hb⟩
 refine Zo (Bb rfl rfl) ?_
 refine Zx ?_
 refine Zd (fun c1 => ?_) fun c1 => ?_
 ·refine Zs ?_
  iterate 2 refine Za ?_
  refine Zx <| DC.ret <| Aa ?_
  refine Fin.weak (E' := [(2, _), (3, _)]) ⟨rfl, rfl, trivial⟩ .nil ?_
  refine AI (.inl rfl) rfl rfl rfl ?_
  exact .inr ⟨by rw [← hb]; simpa using c1, rfl, rfl⟩
 refine DC.skip <| Fin.then <| DC.seq ?_
 have hV : Vld N es := hb.1 (by simpa using c1)
 have hN0 := hV.lo
 have hN1 := hV.hi
 obtain ⟨n, rfl⟩ := Rj hN0
 simp only [Rb]
 refine DC.region ?_
 refine Zf Cs ?_
 refine Zl AJ ?_
 refine Zw (Cb (k := n) rfl rfl rfl Rt AN E5 Cg rfl (by omega) (by omega) (Ci n)) fun g12 => ?_
 refine Za ?_
 refine Zx <| DC.seq <| Zs ?_
 refine Zf Br ?_
 refine Zl B9 ?_
 refine Zn Ru ?_
 refine Zm ?_
 refine Zx <| DC.block ?_
 refine DC.loop (ι := DegI) (fun j => j.i ≤ es.length)
  (fun j => [(4, .slice (some ⟨g12, 0, none⟩) n n), (14, .slice A es.length cap), (15, .int .i64 es.length), (16, .int .i64 j.i)])
  (fun j => [blk g12 3 (ints (tab n (degA es j.i))).toArray]) (fun j => es.length - j.i) ⟨0⟩ (Nat.zero_le _) ⟨rfl, rfl, rfl, rfl, trivial⟩ (.cons' 0 rfl (CF fun _ _ => by simp [degA, cnt, outs, outsF]) .nil) ?_
 rintro ⟨i⟩ hi
 dsimp only at hi ⊢
 refine Zs ?_
 refine Zc ?_
 refine Zx <| DC.seq ?_
 refine Zd (fun c5 => ?_) fun c5 => ?_
 ·have hlt : i < es.length := by simpa using c5
  obtain ⟨e, he⟩ : ∃ e, es[i]? = some e := ⟨_, Q8 hlt⟩
  obtain ⟨ad, rfl, hU, hVe⟩ := hr.pair he
  have ho := hV.ok i e he
  obtain ⟨u, hu⟩ := Rj ho.lo
  obtain ⟨v, hv⟩ := Rj (show 0 ≤ e.2 by have := ho.lo; have := ho.lt; omega)
  obtain rfl : e = ((u : Int), (v : Int)) := Prod.ext hu hv
  clear hu hv
  have huv : u < v := by have := ho.lt; simp at this; exact this
  have hvN : v < n := by have := ho.hi; simp at this; exact this
  replace hU : w.cell? (ad.add (i * 2)) = some (.int .i64 (u : Int)) := hU
  replace hVe : w.cell? (ad.add (i * 2 + 1)) = some (.int .i64 (v : Int)) := hVe
  have b1 : ∀ (x : Nat), 0 ≤ degA es i x ∧ degA es i x ≤ 4194304 := fun x => by
   have := Fb (es.take i) 0 x
   have := hV.few
   simp only [List.length_take] at *
   unfold degA cnt outs; omega
  have b2 := b1 u
  have b3 := b1 v
  refine DC.skip <| Fin.then <| DC.seq <| DC.block <| Zs ?_
  refine Zo (AT rfl rfl rfl Ru AP (by omega) (by omega) (by first | exact Az _ _ | exact AS _ _ _ | rfl)) ?_
  refine Zu (Aq (vs := [_, _]) rfl rfl BW AP rfl (CC hU hVe (by simp))) ?_
  refine Zw (Ay rfl B6 rfl) fun g6 => ?_
  refine Zy (Ah (cs' := #[_, _]) rfl rfl rfl AP rfl (Ra rfl) rfl) ?_
  refine Zx <| Zs ?_
  refine Zm ?_
  refine Zf Bf ?_
  refine Zl AJ ?_
  refine Zi Rt AN ?_
  refine Zu (Ak rfl rfl AJ (A8 (Bm (by omega)))) ?_
  refine Zo (CB rfl rfl rfl (by simp only [Rb]; omega)) ?_
  refine Zi Rt AN ?_
  refine Zy (AB rfl rfl rfl AN rfl (by simp; omega) BY) ?_
  refine Zx ?_
  have b4 : upd (degA es i) u (degA es i u + 1) v = degA es i v := by unfold upd; rw [if_neg (by omega)]
  refine DC.region ?_
  refine Zm ?_
  refine Zf Bv ?_
  refine Zl AJ ?_
  refine Zi Rt AN ?_
  refine Zu (Ak rfl rfl AJ (A8 (Bm hvN))) ?_
  refine Zo (CB rfl rfl rfl (by simp only [Rb]; rw [b4]; omega)) ?_
  refine Zi Rt AN ?_
  refine Zy (AB rfl rfl rfl AN rfl (by simp; omega) BY) ?_
  refine Seq.nil <| Fin.inBlock <| Fin.then <| DC.region ?_
  refine Zp ?_
  refine Zm ?_
  refine Seq.nil ?_
  refine Fin.again ⟨i + 1⟩ (by dsimp only; omega) (by dsimp only; omega) ⟨rfl, rfl, rfl, rfl, trivial⟩ (.cons' 1 rfl (CF fun x _ => Mz he (by omega) x) .nil)
 refine DC.exit <| Ad <| Ad <| Ag <| Fin.then <| Zs ?_
 refine Zm ?_
 iterate 2 refine Za ?_
 refine Zx <| DC.ret ?_
 have hin : i = es.length := by simp at c5; omega
 subst hin
 refine Fin.weak (E' := [(2, _), (3, _)]) ⟨rfl, rfl, trivial⟩ (.cons 0 rfl .nil) ?_
 refine AI (.inl rfl) rfl rfl rfl ?_
 exact .inl ⟨hV, g12, rfl, by rw [CF (g := fun v => cnt es v) fun v _ => by simp [degA]]⟩
theorem DU : KeyK Tryz.prog 3 encI := keyI Tryz.underlying3
theorem Fi : KeyK Tryz.prog 35 encP := Nv (by kernel_rfl) (fun e x w => by kernel_rfl) (Pz (by kernel_rfl)) O0
theorem FQ : KeyK Tryz.prog 43 encP := Nv (by kernel_rfl) (fun e x w => by kernel_rfl) (Py (by kernel_rfl)) O0
theorem B1 {N : Int} {es : List Pr} {va : Value} {w : World} (h : PrV w va es) : Calls Tryz.prog 41 #[.agg #[.int .i64 N, va]] w (Ret w [] fun v L => L = [] ∧ ∃ b, v = .bool b ∧ (b = true ↔ Vld N es)) := by
 obtain ⟨A, cap, rfl, hr, _, _, hle⟩ := h
 exact DK N es A cap w hr (by omega)
structure FrI where
 i : Nat
 m : List (Pr × Value)
structure FrJ where
 v : Nat
 rs : RL
structure FrK where
 k : Nat
 pv : Value
 hs : List Int
 sm : List (Int × Value)
/-- What stands in the rows that are done. -/
structure RowsDone (es : List Pr) (ls : List (List Int)) (v : Nat) (rs : RL) : Prop where
 len : rs.length = ls.length
 ok : ∀ (x : Nat) l, x < v → ls[x]? = some l → (∀ u, u ∈ l → ∃ h, IsHalf es x u h) ∧ l.Nodup ∧ (l.length : Int) = cnt es x
 row : ∀ (x : Nat) l r, x < v → ls[x]? = some l → rs[x]? = some r → r.2.length = l.length ∧ ∀ (j : Nat) u h, l[j]? = some u → r.2[j]? = some h → IsHalf es x u h
 nil : ∀ (x : Nat) r, v ≤ x → rs[x]? = some r → r.2 = []
structure RowPart (es : List Pr) (v : Nat) (l : List Int) (j : FrK) : Prop where
 le : j.k ≤ l.length
 len : j.hs.length = j.k
 half : ∀ (q : Nat) u h, l[q]? = some u → j.hs[q]? = some h → IsHalf es v u h
 nd : (l.take j.k).Nodup
 ex : ∀ u, u ∈ l.take j.k → ∃ h, IsHalf es v u h
 seen : ∀ h, lkM j.sm h = if h ∈ j.hs then some (.bool true) else none
theorem J2 {N : Int} {es : List Pr} {ls : List (List Int)} {va v : Value} {w0 w : World} {ga gb gc : Nat} (hg : PrV w0 va es) (hl : LsV w0 v ls)
  (hO : Own w0 [] w [blk gc 59 #[.slice none 0 0], blk gb 25 #[v], blk ga 24 #[.int .i64 N, va]]) :
  Calls Tryz.prog 118 #[.pointer (some ⟨ga, 0, none⟩), .pointer (some ⟨gb, 0, none⟩), .pointer (some ⟨gc, 0, none⟩)] w
   (RetP w (idsOf [blk gc 59 #[.slice none 0 0], blk gb 25 #[v], blk ga 24 #[.int .i64 N, va]])
    (fun _ M => RotOk N es ls ∧ ∃ g rs, M = [blk gc 59 #[.slice (some ⟨g, 0, none⟩) N.toNat N.toNat], blk g 44 (rowsV rs).toArray] ++ rowsC 3 rs ∧ RotR es ls (rs.map Prod.snd))
    (fun pv M => ∃ v e, pv = flt v e ∧ (e ≠ 0 ∧ ¬ RotOk N es ls))) := by
 have hg0 := hg
 obtain ⟨A, cap, rfl, hr, hlc, hcm, hle⟩ := hg
 obtain ⟨B, capb, rfl, hrb, hlb, hcb, hleb⟩ := hl
 refine CK (args := [_, _, _]) Tryz.func118 rfl Tryz.ntmps118 rfl hO.self ?_
 refine Zs ?_
 refine Zu (Aq (vs := [_, _]) rfl rfl Bs Bd rfl (Ai rfl)) ?_
 refine Seq.rel0 rfl rfl (Am JD rfl rfl rfl (fun w' hw => B1 (Gg hg0 hO hw))) ?_
 rintro _ ⟨b, rfl, hb⟩
 refine Bw rfl rfl DH rfl rfl rfl (fun w' hw => Bu b 0 1 w') ?_ ?_
 ·rintro _ ⟨rfl, hbf⟩
  refine Aj <| ?_
  exact AZ ⟨0, 1, rfl, by decide, fun h => by have := hb.2 h.1; rw [hbf] at this; cases this⟩
 rintro _ hbt
 have hV : Vld N es := hb.1 hbt
 refine Zx <| Zs ?_
 refine Zl Fr ?_
 refine Zn Rw ?_
 refine Zf Cs ?_
 refine Zl AJ ?_
 refine Zo (AW rfl rfl rfl) ?_
 refine Bw rfl rfl DH rfl rfl rfl (fun w' hw => Bu _ 0 110 w') ?_ ?_
 ·rintro _ ⟨rfl, hbf⟩
  refine Aj <| ?_
  exact AZ ⟨0, 110, rfl, by decide, fun h => by simp at hbf; exact hbf h.2.1⟩
 rintro _ hbN
 have hN : (ls.length : Int) = N := by simpa using hbN
 subst hN
 have hN1 := hV.hi
 have hfew := hV.few
 refine Zx <| Zs ?_
 refine Seq.rel rfl rfl (CH (enc := encP) rfl) ?_
 rintro _ _ ⟨gm, rfl, rfl⟩
 simp only [zs]
 refine Za ?_
 refine Zx <| DC.seq <| Zs ?_
 refine Zf Br ?_
 refine Zl B9 ?_
 refine Zn Ru ?_
 refine Zm ?_
 refine Zx <| DC.block ?_
 refine DC.loop (ι := FrI) (fun j => j.i ≤ es.length ∧ HalfM es j.i (lkM j.m))
  (fun j => [(0, .pointer (some ⟨ga, 0, none⟩)), (1, .pointer (some ⟨gb, 0, none⟩)), (2, .pointer (some ⟨gc, 0, none⟩)), (3, .map (some gm)), (26, (.slice A es.length cap)), (27, .int .i64 es.length), (28, .int .i64 j.i)])
  (fun j => [mpc encP gm j.m, blk gc 59 #[.slice none 0 0], blk gb 25 #[.slice B ls.length capb], blk ga 24 #[.int .i64 (ls.length : Int), (.slice A es.length cap)]]) (fun j => es.length - j.i) ⟨0, []⟩ ⟨Nat.zero_le _, KA es⟩ ⟨rfl, rfl, rfl, rfl, rfl, rfl, rfl, trivial⟩ (.cons 0 rfl (.cons 0 rfl (.cons 0 rfl (.cons 0 rfl .nil)))) ?_
 rintro ⟨i, m⟩ ⟨hi, hm⟩
 dsimp only at hi hm ⊢
 refine Zs ?_
 refine Zc ?_
 refine Zx <| DC.seq ?_
 refine Zd (fun c4 => ?_) fun c4 => ?_
 ·have hlt : i < es.length := by simpa using c4
  obtain ⟨e, he⟩ : ∃ e, es[i]? = some e := ⟨_, Q8 hlt⟩
  obtain ⟨ad, rfl, hU, hVe⟩ := hr.pair he
  refine DC.skip <| Fin.then <| DC.seq <| DC.block <| Zs ?_
  refine Zm ?_
  refine Zo (AT rfl rfl rfl Ru AP (by omega) (by omega) (by first | exact Az _ _ | exact AS _ _ _ | rfl)) ?_
  refine Zu (Aq (vs := [_, _]) rfl rfl BW AP rfl (Ms hO hU hVe)) ?_
  refine Zw (Ay rfl B6 rfl) fun g5 => ?_
  refine Za ?_
  refine Zy (Ah (cs' := #[_, _]) rfl rfl rfl AP rfl (Ra rfl) rfl) ?_
  refine Zx ?_
  refine AC (cl := [.q, .q, .q, .q, .q, .q, .q, .q, .q, .q, .q, .q, .q, .q, .q, .q, .q, .g, .g]) (A := [0, 0, 2, 0, 8, 30, 0, 0, 128, 0, 512, 1920, 0, 4096, 0, 16384, 49152, 12351, 262143]) (order := [0, 1, 2, 3, 4, 5, 6, 7, 8, 9, 10, 11, 12, 13, 14, 15, 16, 17, 18]) ([blk g5 43 #[.int .i64 e.1, .int .i64 e.2]]) mixed (by kernel_rfl) (fun w hw => hw.pick (.cons 0 rfl .nil)) ?_
  refine Ym ?_
  refine Yf Bf ?_
  refine Flow.old rfl rfl rfl (Ak rfl rfl AJ (Bt rfl)) ?_
  refine Yf Bv ?_
  refine Flow.old rfl rfl rfl (Ak rfl rfl AJ (Bt rfl)) ?_
  refine Yo rfl (FL (cs := #[.int .i64 e.1, .int .i64 e.2]) rfl rfl (by kernel_rfl)) ?_
  refine Ym ?_
  refine Yf Bv ?_
  refine Flow.old rfl rfl rfl (Ak rfl rfl AJ (Bt rfl)) ?_
  refine Yf Bf ?_
  refine Flow.old rfl rfl rfl (Ak rfl rfl AJ (Bt rfl)) ?_
  refine Yo rfl (FL (cs := #[.int .i64 e.2, .int .i64 e.1]) rfl rfl (by kernel_rfl)) ?_
  refine Ym ?_
  refine Yo rfl (Ch rfl rfl rfl (by omega)) ?_
  refine Ym ?_
  refine Yo rfl (Ch rfl rfl rfl (by omega)) ?_
  refine Yo rfl (CB rfl rfl rfl (by omega)) ?_
  refine AD rfl rfl rfl rfl (BF (k := (e.1, e.2)) 1 rfl Fi rfl rfl rfl rfl Tryz.underlying191 rfl) (fun w hw => hw.pick (.cons 0 rfl .nil)) ?_
  refine AD rfl rfl rfl rfl (BF (k := (e.2, e.1)) 1 rfl Fi rfl rfl rfl rfl Tryz.underlying191 rfl) (fun w hw => hw.pick (.cons 0 rfl .nil)) ?_
  refine Flow.end rfl ?_
  simp only [zq, zr]
  refine Fin.inBlock <| Fin.then <| DC.region ?_
  refine Zp ?_
  refine Zm ?_
  refine Seq.nil ?_
  refine Fin.again ⟨i + 1, putM (e.2, e.1) (.int .i64 (2 * (i : Int) + 1)) (putM (e.1, e.2) (.int .i64 (2 * (i : Int))) m)⟩ (by dsimp only; omega) ⟨by dsimp only; omega, ?_⟩ ⟨rfl, rfl, rfl, rfl, rfl, rfl, rfl, trivial⟩ (.cons 1 rfl (.cons 1 rfl (.cons 1 rfl (.cons 1 rfl .nil))))
  have := KB hV he hm
  intro p v
  dsimp only
  rw [Do, Do]
  exact this p v
 refine DC.exit <| Ad <| Ad <| Ag <| Fin.then <| Zs ?_
 refine Zu (Aq (vs := [_, _]) rfl rfl Bs Bd rfl (Ai rfl)) ?_
 refine Seq.rel rfl rfl (Am O9 rfl rfl rfl (fun w' hw => Eh (Gg hg0 hO hw))) ?_
 intro v53 L53 hC53
 obtain ⟨_, gd, rfl, rfl⟩ := hC53.resolve_right (fun h => h.1 hV)
 simp only [Rb, List.cons_append, List.nil_append]
 refine Zm ?_
 iterate 2 refine Ze ?_
 iterate 2 refine Za ?_
 refine Zx <| Zs ?_
 refine Zf Cs ?_
 refine Zl AJ ?_
 refine Zw (Cb (k := ls.length) (cs := (rowsV (List.replicate ls.length (.slice none 0 0, []))).toArray) rfl rfl rfl Ry Cn KT DJ rfl (by omega) (by omega) (by rw [EL _ rfl]; simp [rowsV])) fun g58 => ?_
 refine Zy (AB (cs' := #[_]) rfl rfl rfl sz59 rfl (Ra rfl) rfl) ?_
 refine Zx <| Zs ?_
 refine Zl Fr ?_
 refine Zn Rw ?_
 refine Zm ?_
 refine Zx <| DC.block ?_
 have hie : i = es.length := by simp at c4; omega
 subst hie
 refine DC.own (fun w hw => Nf (t := 3) ls.length hw) ?_
 refine DC.loop (ι := FrJ) (fun j => j.v ≤ ls.length ∧ RowsDone es ls j.v j.rs)
  (fun j => [(0, .pointer (some ⟨ga, 0, none⟩)), (1, .pointer (some ⟨gb, 0, none⟩)), (2, .pointer (some ⟨gc, 0, none⟩)), (3, .map (some gm)), (6, .slice (some ⟨gd, 0, none⟩) ls.length ls.length), (59, .slice B ls.length capb), (60, .int .i64 ls.length), (61, .int .i64 j.v)])
  (fun j => [blk g58 44 (rowsV j.rs).toArray, blk gd 3 (ints (tab ls.length (fun v => cnt es v))).toArray, mpc encP gm m, blk gc 59 #[.slice (some ⟨g58, 0, none⟩) ls.length ls.length], blk gb 25 #[.slice B ls.length capb], blk ga 24 #[.int .i64 (ls.length : Int), (.slice A es.length cap)]] ++ rowsC 3 j.rs) (fun j => ls.length - j.v) ⟨0, List.replicate ls.length (.slice none 0 0, [])⟩
  ⟨Nat.zero_le _, ⟨by simp, fun _ _ h => absurd h (Rs _), fun _ _ _ h => absurd h (Rs _), fun x r _ hx => by simp [List.getElem?_replicate] at hx; rw [← hx.2]⟩⟩ ⟨rfl, rfl, rfl, rfl, rfl, rfl, rfl, rfl, trivial⟩ (Pick.all _) ?_
 rintro ⟨v, rs⟩ ⟨hv, hd⟩
 dsimp only at hv hd ⊢
 simp only [zs]
 refine Zs ?_
 refine Zc ?_
 refine Zx <| DC.seq ?_
 refine Zd (fun c11 => ?_) fun c11 => ?_
 ·have hvlt : v < ls.length := by simpa using c11
  obtain ⟨l, hl⟩ : ∃ l, ls[v]? = some l := ⟨_, Q8 hvlt⟩
  obtain ⟨adb, lv, rfl, hc, Al, capl, rfl, hrl, hl1, hl2, hl3⟩ := hrb v l hl
  have hrlen := hd.len
  obtain ⟨p0, hp0⟩ : ∃ p, rs[v]? = some p := ⟨_, Q8 (by omega)⟩
  have hp0n := hd.nil v p0 (Nat.le_refl _) hp0
  obtain ⟨pv0, hs0⟩ := p0
  dsimp only at hp0n
  subst hp0n
  have hset0 : rs.set v (pv0, []) = rs := by
   apply List.ext_getElem?
   intro q
   rw [List.getElem?_set]
   split
   ·rename_i e; subst e; rw [if_pos (by omega)]; exact hp0.symm
   rfl
  refine DC.skip <| Fin.then <| DC.seq <| DC.block <| Zs ?_
  refine Zm ?_
  refine Zi Rw Cn ?_
  refine Zu (Ak rfl rfl BS (EO hO hc)) ?_
  iterate 2 refine Za ?_
  refine Zx <| Zs ?_
  refine Seq.rel rfl rfl (CH (enc := encI) rfl) ?_
  rintro _ _ ⟨gs, rfl, rfl⟩
  simp only [zs]
  refine Za ?_
  refine Zx <| DC.seq <| Zs ?_
  refine Zm ?_
  refine Zn Rt ?_
  refine Zm ?_
  refine Zx <| DC.block ?_
  refine DC.loop (ι := FrK) (fun j => RowPart es v l j)
   (fun j => [(0, .pointer (some ⟨ga, 0, none⟩)), (1, .pointer (some ⟨gb, 0, none⟩)), (2, .pointer (some ⟨gc, 0, none⟩)), (3, .map (some gm)), (6, .slice (some ⟨gd, 0, none⟩) ls.length ls.length), (8, .int .i64 v), (9, .slice Al l.length capl), (10, .map (some gs)), (59, .slice (some adb) ls.length capb), (60, .int .i64 ls.length), (61, .int .i64 v), (67, .slice Al l.length capl), (68, .int .i64 l.length), (69, .int .i64 j.k)])
   (fun j => [mpc encI gs j.sm, blk g58 44 (rowsV (rs.set v (j.pv, j.hs))).toArray, blk gd 3 (ints (tab ls.length (fun v => cnt es v))).toArray, mpc encP gm m, blk gc 59 #[.slice (some ⟨g58, 0, none⟩) ls.length ls.length], blk gb 25 #[.slice (some adb) ls.length capb], blk ga 24 #[.int .i64 (ls.length : Int), (.slice A es.length cap)]] ++ rowsC 3 (rs.set v (j.pv, j.hs))) (fun j => l.length - j.k) ⟨0, pv0, [], []⟩
   ⟨Nat.zero_le _, rfl, by simp, by simp, by simp, by simp⟩ ⟨rfl, rfl, rfl, rfl, rfl, rfl, rfl, rfl, rfl, rfl, rfl, rfl, rfl, rfl, trivial⟩ (by dsimp only; rw [hset0]; exact Pick.all _) ?_
  rintro ⟨k, pv, hs, sm⟩ hR
  have hRle := hR.le
  have hRlen := hR.len
  dsimp only at hRle hRlen ⊢
  simp only [zs]
  refine Zs ?_
  refine Zc ?_
  refine Zx <| DC.seq ?_
  refine Zd (fun c15 => ?_) fun c15 => ?_
  ·have hklt : k < l.length := by simpa using c15
   obtain ⟨u, hu⟩ : ∃ u, l[k]? = some u := ⟨_, Q8 hklt⟩
   obtain ⟨adl, rfl, hcu⟩ := hrl.int hu
   refine DC.skip <| Fin.then <| DC.seq <| DC.block <| Zs ?_
   refine Zi Rt AN ?_
   refine Zu (Ak rfl rfl AJ (EO hO hcu)) ?_
   refine Za ?_
   refine Zx <| Zs ?_
   iterate 3 refine Zm ?_
   refine Zo (FL (cs := #[.int .i64 v, .int .i64 u]) rfl rfl (by kernel_rfl)) ?_
   obtain ⟨x0, jn, hlk, hj1, hj2⟩ : ∃ x0 jn, (if true then (.tuple #[(lkM m ((v : Int), u)).getD (.int .i64 0), .bool (lkM m ((v : Int), u)).isSome] : Value) else (lkM m ((v : Int), u)).getD (.int .i64 0)) = .tuple #[x0, .bool jn] ∧ (jn = true → ∃ h, x0 = .int .i64 h ∧ IsHalf es v u h) ∧ (jn = false → ∀ h, ¬ IsHalf es v u h) := by
    refine ⟨_, _, rfl, fun hj => ?_, fun hj h hh => ?_⟩
    ·obtain ⟨x, hx⟩ := Option.isSome_iff_exists.1 hj
     obtain ⟨h, rfl, hh, _⟩ := (hm _ _).1 hx
     exact ⟨h, by rw [hx]; rfl, hh⟩
    have := (hm ((v : Int), u) (.int .i64 h)).2 ⟨h, rfl, hh, by have := hh.hi; omega⟩
    rw [this] at hj; cases hj
   refine Zu (Cz (k := ((v : Int), u)) 3 rfl Fi rfl rfl rfl Tryz.underlying191 Cg hlk) ?_
   refine Zm ?_
   iterate 2 refine Ze ?_
   iterate 2 refine Za ?_
   refine Zx <| Zs ?_
   iterate 2 refine Zm ?_
   refine Bw rfl rfl DH rfl rfl rfl (fun w' hw => Bu jn v 111 w') ?_ ?_
   ·rintro _ ⟨rfl, hbf⟩
    refine Aj <| At <| Aj <| Aj <| At <| Aj <| At <| Aj <| Aj <| At <| ?_
    refine AZ ⟨v, 111, rfl, by decide, fun h => ?_⟩
    obtain ⟨h1, hh⟩ := (h.2.2 v l hl).1 u (Rc hu)
    exact hj2 hbf h1 hh
   rintro _ hjt
   obtain ⟨h, rfl, hh⟩ := hj1 hjt
   refine Zx <| Zs ?_
   iterate 2 refine Zm ?_
   refine Zu (Cz (ok := false) (v := .bool (decide (h ∈ hs))) (k := h) 0 rfl DU rfl rfl rfl Tryz.underlying194 PL (by rw [hR.seen h]; dsimp only; by_cases hm : h ∈ hs <;> simp [hm])) ?_
   refine Zo (Bb rfl rfl) ?_
   refine Zm ?_
   refine Bw rfl rfl DH rfl rfl rfl (fun w' hw => Bu _ v 112 w') ?_ ?_
   ·rintro _ ⟨rfl, hbf⟩
    refine Aj <| At <| Aj <| Aj <| At <| Aj <| At <| Aj <| Aj <| At <| ?_
    refine AZ ⟨v, 112, rfl, by decide, fun hok => ?_⟩
    have hin : h ∈ hs := by simpa using hbf
    obtain ⟨q, hq⟩ := Rf.1 hin
    have hqk : q < k := by have := (Q9.1 hq).1; omega
    obtain ⟨u', hu'⟩ : ∃ u', l[q]? = some u' := ⟨_, Q8 (by omega)⟩
    have h1 := (hR.half q u' h hu' hq).to
    have h2 := hh.to
    have hnd := (hok.2.2 v l hl).2.1
    have : q = k := by
     exact (List.getElem?_inj (by omega) hnd).1 (by rw [hu', hu, ← h1, h2])
    omega
   rintro _ hnin
   have hni : h ∉ hs := by simpa using hnin
   refine Zx <| Zs ?_
   iterate 2 refine Zm ?_
   refine Zy (BF (k := h) 0 rfl DU rfl rfl rfl rfl Tryz.underlying194 rfl) ?_
   simp only [List.set_cons_zero]
   refine Zx ?_
   obtain ⟨rs1, hrs1⟩ : ∃ rs1, rs1 = rs.set v (pv, hs) := ⟨_, rfl⟩
   have hl1 : rs1.length = ls.length := by rw [hrs1]; simp [hrlen]
   have hp1 : rs1[v]? = some (pv, hs) := by rw [hrs1, List.getElem?_set_self (by omega)]
   rw [← hrs1]
   refine AC (cl := [.q, .q, .q, .q, .q, .v, .q, .n, .g, .q, .g]) (A := [0, 0, 0, 0, 12, 28, 0, 64, 252, 511, 1023]) (order := [0, 1, 2, 3, 4, 5, 6, 7, 8, 9, 10]) ([blk gc 59 #[.slice (some ⟨g58, 0, none⟩) ls.length ls.length]]) mixed (by kernel_rfl) (fun w hw => hw.pick (.cons 4 rfl .nil)) ?_
   refine Flow.old rfl rfl rfl (Ak rfl rfl OV (Bt rfl)) ?_
   refine Ym ?_
   refine Flow.old rfl rfl rfl (Ak rfl rfl OV (Bt rfl)) ?_
   refine Ym ?_
   refine Yo rfl (Aw rfl rfl rfl Ry Cn (by omega) (by omega) (by first | exact Az _ _ | exact AS _ _ _ | rfl)) ?_
   refine Ar rfl rfl rfl rfl (Ak rfl rfl BS (A8 (Hh hp1))) ?_
   refine Ym ?_
   refine Be rfl rfl rfl rfl (AM (cs := #[_]) rfl rfl Rt AN Cg rfl (by decide) (by decide) rfl rfl) fun g99 => ?_
   refine CL (V := blk g99 3 #[.int .i64 h] :: mpc encI gs (putM h (.bool true) sm) :: blk g58 44 (rowsV rs1).toArray :: blk gd 3 (ints (tab ls.length (fun v => cnt es v))).toArray :: mpc encP gm m :: blk gc 59 #[.slice (some ⟨g58, 0, none⟩) ls.length ls.length] :: blk gb 25 #[.slice (some adb) ls.length capb] :: blk ga 24 #[.int .i64 (ls.length : Int), (.slice A es.length cap)] :: rowsC 3 rs1) rfl rfl rfl rfl rfl
    (Gen.shape (AR (F := [blk g99 3 #[.int .i64 h], mpc encI gs (putM h (.bool true) sm), blk g58 44 (rowsV rs1).toArray, blk gd 3 (ints (tab ls.length (fun v => cnt es v))).toArray, mpc encP gm m, blk gc 59 #[.slice (some ⟨g58, 0, none⟩) ls.length ls.length], blk gb 25 #[.slice (some adb) ls.length capb], blk ga 24 #[.int .i64 (ls.length : Int), (.slice A es.length cap)]] ++ rowsC 3 (rs1.eraseIdx v)) (vs := ints hs) (k := 1) (news := [.int .i64 h]) rfl rfl rfl Rt AN E5 Cg rfl (by decide) (by decide)
     (fun w hw => hw.perm (FH hp1 _).symm) (.inl ⟨_, _, rfl, Ai rfl⟩) rfl (by intro u hu; simp at hu; subst hu; rfl) (by rw [ints_length]; omega))) (fun v L' hC w hw => by obtain ⟨_, rfl⟩ := hC; exact hw.pick (.cons 6 rfl .nil)) ?_
   rintro _ _ ⟨⟨A1, l1, c1, rfl⟩, rfl⟩
   simp only [zs]
   refine Yo rfl (Aw rfl rfl rfl Ry Cn (by omega) (by omega) (by first | exact Az _ _ | exact AS _ _ _ | rfl)) ?_
   refine AD rfl rfl rfl rfl (AB (cs' := (rowsV (rs1.set v (.slice A1 l1 c1, hs ++ [h]))).toArray) rfl rfl rfl Cn rfl (by simp; omega) (L6 rs1 v (.slice A1 l1 c1, hs ++ [h]))) (fun w hw => hw.pick (.cons 6 rfl .nil)) ?_
   refine Flow.end rfl ?_
   simp only [zq, zr]
   refine Fin.own (M := [mpc encI gs (putM h (.bool true) sm), blk g58 44 (rowsV (rs1.set v (.slice A1 l1 c1, hs ++ [h]))).toArray, blk gd 3 (ints (tab ls.length (fun v => cnt es v))).toArray, mpc encP gm m, blk gc 59 #[.slice (some ⟨g58, 0, none⟩) ls.length ls.length], blk gb 25 #[.slice (some adb) ls.length capb], blk ga 24 #[.int .i64 (ls.length : Int), (.slice A es.length cap)]] ++ rowsC 3 (rs1.set v (.slice A1 l1 c1, hs ++ [h]))) (fun w hw => ?_) ?_
   ·have h4 := (hw.pick (.cons 1 rfl (Pick.all _))).sub (Rg ..)
    have h5 := h4.pick (L' := slc (.slice A1 l1 c1) 3 1 (ints (hs ++ [h])) :: ([mpc encI gs (putM h (.bool true) sm), blk g58 44 (rowsV (rs1.set v (.slice A1 l1 c1, hs ++ [h]))).toArray, blk gd 3 (ints (tab ls.length (fun v => cnt es v))).toArray, mpc encP gm m, blk gc 59 #[.slice (some ⟨g58, 0, none⟩) ls.length ls.length], blk gb 25 #[.slice (some adb) ls.length capb], blk ga 24 #[.int .i64 (ls.length : Int), (.slice A es.length cap)]] ++ rowsC 3 (rs1.eraseIdx v))) (.cons' 0 rfl (by rw [Bj]; rfl) (Pick.all _))
    exact h5.perm (M2 (.slice A1 l1 c1, hs ++ [h]) (by omega) _).symm
   rw [hrs1, List.set_set]
   refine Fin.inBlock <| Fin.then <| DC.region ?_
   refine Zp ?_
   refine Zm ?_
   refine Seq.nil ?_
   refine Fin.again (FrK.mk (k + 1) (.slice A1 l1 c1) (hs ++ [h]) (putM h (.bool true) sm)) (by dsimp only; omega) ?_ ⟨rfl, rfl, rfl, rfl, rfl, rfl, rfl, rfl, rfl, rfl, rfl, rfl, rfl, rfl, trivial⟩ (Pick.all _)
   have htk : l.take (k + 1) = l.take k ++ [u] := by rw [List.take_add_one, hu]; rfl
   refine ⟨by dsimp only; omega, by simp [hRlen], ?_, ?_, ?_, ?_⟩
   ·intro q u' h' hu' hh'
    dsimp only at hh'
    rw [List.getElem?_append] at hh'
    split at hh'
    ·exact hR.half q u' h' hu' hh'
    have hqk : q = k := by
     have : q - hs.length < 1 := by have := (Q9.1 hh').1; simpa using this
     omega
    subst hqk
    rw [hu] at hu'; cases hu'
    rw [show q - hs.length = 0 by omega] at hh'
    cases hh'; exact hh
   ·dsimp only
    rw [htk, List.nodup_append]
    refine ⟨hR.nd, by simp, fun a ha b hb e => ?_⟩
    simp at hb; subst hb; subst e
    obtain ⟨q, hq⟩ := Rf.1 ha
    rw [List.getElem?_take] at hq
    split at hq
    ·rename_i hqk
     obtain ⟨h', hh'⟩ : ∃ h', hs[q]? = some h' := ⟨_, Q8 (by omega)⟩
     have := (hR.half q a h' hq hh').uniq hV hh
     subst this
     exact hni (Rc hh')
    cases hq
   ·dsimp only
    intro u' hu'
    rw [htk, List.mem_append] at hu'
    rcases hu' with hu' | hu'
    ·exact hR.ex u' hu'
    simp at hu'; subst hu'; exact ⟨h, hh⟩
   intro h'
   dsimp only
   rw [Do, hR.seen h']
   by_cases e : h' = h
   ·subst e; simp
   simp [e]
  refine DC.exit <| Ad <| Ad <| Ag <| Fin.then ?_
  have hkl : k = l.length := by simp at c15; omega
  subst hkl
  obtain ⟨rs1, hrs1⟩ : ∃ rs1, rs1 = rs.set v (pv, hs) := ⟨_, rfl⟩
  rw [← hrs1]
  have hnd := hR.nd
  have hex := hR.ex
  dsimp only at hnd hex
  rw [List.take_length] at hnd hex
  refine DC.region ?_
  refine Zm ?_
  refine Zn Rt ?_
  iterate 2 refine Zm ?_
  refine Zi Rt AN ?_
  refine Zu (Ak rfl rfl AJ (A8 (Bm hvlt))) ?_
  refine Zo (AW rfl rfl rfl) ?_
  refine Zm ?_
  refine Bw rfl rfl DH rfl rfl rfl (fun w' hw => Bu _ v 113 w') ?_ ?_
  ·rintro _ ⟨rfl, hbf⟩
   refine At <| Aj <| Aj <| At <| ?_
   refine AZ ⟨v, 113, rfl, by decide, fun hok => ?_⟩
   have := (hok.2.2 v l hl).2.2
   simp at hbf
   exact hbf this
  rintro _ hbt3
  have hcnt : (l.length : Int) = cnt es v := by simpa using hbt3
  refine Seq.nil <| Fin.inBlock <| Fin.then <| DC.region ?_
  refine Zp ?_
  refine Zm ?_
  refine Seq.nil ?_
  refine Fin.own (fun w hw => hw.sub (Rg ..)) ?_
  refine Fin.again (FrJ.mk (v + 1) rs1) (by dsimp only; omega) ⟨by dsimp only; omega, ?_⟩ ⟨rfl, rfl, rfl, rfl, rfl, rfl, rfl, rfl, trivial⟩ (Pick.all _)
  subst hrs1
  refine ⟨by simp [hrlen], ?_, ?_, ?_⟩
  ·intro x l' hx hl'
   dsimp only at hx
   rcases Re.1 hx with hx | rfl
   ·exact hd.ok x l' hx hl'
   rw [hl] at hl'; cases hl'
   exact ⟨hex, hnd, hcnt⟩
  ·intro x l' r hx hl' hr'
   dsimp only at hx
   rw [List.getElem?_set] at hr'
   split at hr'
   ·rename_i e; subst e
    rw [if_pos (by omega)] at hr'
    cases hr'
    rw [hl] at hl'; cases hl'
    exact ⟨hRlen, hR.half⟩
   exact hd.row x l' r (by omega) hl' hr'
  intro x r hx hr'
  dsimp only at hx
  rw [List.getElem?_set_ne (by omega)] at hr'
  exact hd.nil x r (by omega) hr'
 refine DC.exit <| Ad <| Ad <| Ag ?_
 have hvl : v = ls.length := by simp at c11; omega
 subst hvl
 refine Fin.weak (E' := []) trivial (.cons 3 rfl (.cons 0 rfl (.cons 0 rfl (.cons 0 rfl (.cons 0 rfl (.cons 0 rfl (Pick.all _))))))) ?_
 refine Fin.own (M := [blk gc 59 #[.slice (some ⟨g58, 0, none⟩) ls.length ls.length], blk g58 44 (rowsV rs).toArray] ++ rowsC 3 rs) (fun w hw => hw.sub (.cons_cons _ (.cons_cons _ (.cons _ (.cons _ (.cons _ (.cons _ (List.Sublist.refl _)))))))) ?_
 refine CX (.inr rfl) (BL (.inr rfl) rfl ⟨⟨hV, rfl, fun x l hl => hd.ok x l (Q9.1 hl).1 hl⟩, g58, rs, by simp, by simp [hd.len], fun x l r hl hr => ?_⟩)
 rw [List.getElem?_map, Option.map_eq_some_iff] at hr
 obtain ⟨p, hp, rfl⟩ := hr
 exact hd.row x l p (Q9.1 hl).1 hl hp
/-- rot.From: the rotation, or a fault. -/
theorem FD {N : Int} {es : List Pr} {ls : List (List Int)} {va v : Value} {w : World} (hg : PrV w va es) (hl : LsV w v ls) :
  Calls Tryz.prog 94 #[.agg #[.int .i64 N, va], v] w (Ret w [] fun r M =>
   (RotOk N es ls ∧ ∃ g rs, r = .tuple #[.slice (some ⟨g, 0, none⟩) N.toNat N.toNat, .int .i64 0, .int .i64 0] ∧ M = [blk g 44 (rowsV rs).toArray] ++ rowsC 3 rs ∧ RotR es ls (rs.map Prod.snd)) ∨
   (¬ RotOk N es ls ∧ M = [] ∧ ∃ x e, r = .tuple #[.slice none 0 0, .int .i64 x, .int .i64 e] ∧ e ≠ 0)) := by
 have hg0 := hg
 have hl0 := hl
 obtain ⟨A, cap, rfl, hr, hlc, hcm, hle⟩ := hg
 obtain ⟨B, capb, rfl, hrb, hlb, hcb, hleb⟩ := hl
 refine Ao (args := [_, _]) (L := []) Tryz.func94 rfl Tryz.ntmps94 rfl (Own.start _ _) ?_
 refine Zs ?_
 refine Zw (AX rfl rfl rfl) fun g2 => ?_
 refine Zw (AX rfl rfl rfl) fun g3 => ?_
 iterate 3 refine Za ?_
 refine Zx <| Zs ?_
 refine Zw (Ay rfl ze59 rfl) fun g7 => ?_
 refine Zx <| DC.seq ?_
 refine DC.own (M := [blk g7 59 #[.slice none 0 0], blk g3 25 #[.slice B ls.length capb], blk g2 24 #[.int .i64 N, .slice A es.length cap]]) (fun w hw => hw) ?_
 refine DC.region ?_
 refine Zo (E9 rfl rfl rfl) ?_
 refine Seq.gen rfl rfl (AQ Pa rfl rfl rfl (Lc := [blk g7 59 #[.slice none 0 0], blk g3 25 #[.slice B ls.length capb], blk g2 24 #[.int .i64 N, .slice A es.length cap]]) (F := []) (.refl _) (fun k hk => hk)
  (fun w' hw => EY (cap := #[.pointer (some ⟨g2, 0, none⟩), .pointer (some ⟨g3, 0, none⟩), .pointer (some ⟨g7, 0, none⟩)]) (C := fun M => RotOk N es ls ∧ ∃ (g : Nat) (rs : RL), M = [blk g7 59 #[.slice (some ⟨g, 0, none⟩) N.toNat N.toNat], blk g 44 (rowsV rs).toArray] ++ rowsC 3 rs ∧ RotR es ls (rs.map Prod.snd))
   (D := fun v e M => e ≠ 0 ∧ ¬ RotOk N es ls) QS hw.self (fun w'' hw'' => J2 hg0 hl0 (by simpa using Own.frame (F := []) (by simpa using hw) hw'' (fun k hk => hk))))) ?_
 rintro v12 _ ⟨M, hC, rfl⟩
 have hD : (∃ v e, v12 = .tuple #[.int .i64 v, .int .i64 e] ∧ ((v = 0 ∧ e = 0 ∧ RotOk N es ls ∧ ∃ g rs, M = [blk g7 59 #[.slice (some ⟨g, 0, none⟩) N.toNat N.toNat], blk g 44 (rowsV rs).toArray] ++ rowsC 3 rs ∧ RotR es ls (rs.map Prod.snd)) ∨ (e ≠ 0 ∧ ¬ RotOk N es ls))) := by
  rcases hC with ⟨rfl, hC⟩ | ⟨v, e, rfl, hC⟩
  ·exact ⟨0, 0, rfl, .inl ⟨rfl, rfl, hC⟩⟩
  exact ⟨v, e, rfl, .inr hC⟩
 clear hC
 obtain ⟨xv, xe, rfl, hD⟩ := hD
 refine Zm ?_
 iterate 2 refine Ze ?_
 iterate 2 refine Za ?_
 refine Zx <| DC.seq <| Zs ?_
 refine Zm ?_
 refine Zo (BQ rfl rfl rfl) ?_
 refine Zx ?_
 refine Zd (fun c3 => ?_) fun c3 => ?_
 ·have hbad : xe ≠ 0 ∧ ¬ RotOk N es ls := by
   rcases hD with ⟨_, h0, _⟩ | h
   ·subst h0; simp at c3
   exact h
  refine Zs ?_
  iterate 2 refine Zm ?_
  iterate 3 refine Za ?_
  refine Zx <| DC.ret <| Aa ?_
  refine Fin.weak (E' := [(4, _), (5, _), (6, _)]) ⟨rfl, rfl, rfl, trivial⟩ .nil ?_
  refine Bk (.inl rfl) rfl rfl rfl rfl ?_
  exact .inr ⟨hbad.2, rfl, xv, xe, rfl, hbad.1⟩
 have h0 : xe = 0 := by simpa using c3
 obtain ⟨_, _, hok, g, rs, rfl, hrr⟩ := hD.resolve_right (fun h => h.1 h0)
 simp only [List.cons_append, List.nil_append, List.append_nil]
 refine DC.skip <| Fin.then <| Zs ?_
 refine Zl OV ?_
 iterate 3 refine Za ?_
 refine Zx <| DC.ret ?_
 refine Fin.weak (E' := [(4, _), (5, _), (6, _)]) ⟨rfl, rfl, rfl, trivial⟩ (.cons 1 rfl (Pick.all _)) ?_
 refine Fin.own (M := blk g 44 (rowsV rs).toArray :: rowsC 3 rs) (fun w hw => hw.sub (.cons_cons _ (.cons _ (List.Sublist.refl _)))) ?_
 refine Bk (.inl rfl) rfl rfl rfl rfl ?_
 exact .inl ⟨hok, g, rs, rfl, by simp, hrr⟩
def oneA (i : Nat) : Nat → Int := fun x => if x < i then 1 else 0
def idA (i : Nat) : Nat → Int := fun x => if x < i then (x : Int) else 0
theorem Nx (i : Nat) (x : Nat) : upd (idA i) i (i : Int) x = idA (i + 1) x := by unfold upd idA; split <;> split <;> (try split) <;> omega
theorem Mj (i : Nat) (x : Nat) : upd (oneA i) i 1 x = oneA (i + 1) x := by unfold upd oneA; split <;> split <;> (try split) <;> omega
theorem Od {n : Nat} (hn : n ≤ 1048576) {w : World} : Calls Tryz.prog 175 #[.int .i64 n] w (Ret w [] fun r M =>
  ∃ gp g1 g2 sz, r = .tuple #[.pointer (some ⟨gp, 0, none⟩), .int .i64 0] ∧ sz.length = n ∧ M = setsL gp g1 g2 n (fun a => a) sz n) := by
 refine Ao (args := [_]) (L := []) Tryz.func175 rfl Tryz.ntmps175 rfl (Own.start _ _) ?_
 refine Zs ?_
 iterate 2 refine Za ?_
 refine Zx <| DC.seq <| Zs ?_
 refine Zm ?_
 refine Zc ?_
 refine Zm ?_
 refine Seq.split 8 rfl (fun k1_2 => ?_) (fun k1_2 => ?_)
 ·refine Zk ?_
  refine Zk ?_
  refine Zt ?_
  refine Zx ?_
  refine AG rfl ?_
  refine Zs ?_
  iterate 2 refine Za ?_
  refine Zx <| DC.ret <| Aa ?_
  refine AI (.inl rfl) rfl rfl rfl ?_
  simp at k1_2; omega
 refine Zm ?_
 refine Zo (Bx rfl rfl rfl) ?_
 refine Zg ?_
 refine Zx ?_
 refine Zd (fun c1 => ?_) fun c1 => ?_
 ·refine Zs ?_
  iterate 2 refine Za ?_
  refine Zx <| DC.ret <| Aa ?_
  refine AI (.inl rfl) rfl rfl rfl ?_
  simp at c1; omega
 refine DC.skip <| Fin.then <| DC.seq ?_
 refine AC (cl := [.q, .n, .q, .n, .q, .q, .n, .q]) (A := [0, 1, 0, 4, 0, 31, 63, 127]) (order := [0, 2, 4, 1, 3, 5, 6, 7]) [] mixed (by kernel_rfl) (fun w hw => hw.pick .nil) ?_
 iterate 3 refine Ym ?_
 refine Be rfl rfl rfl rfl (Cb (k := n) rfl rfl rfl Tryz.underlying261 AN E5 Cg rfl (by omega) (by omega) (Ci n)) fun g13 => ?_
 refine Be rfl rfl rfl rfl (Cb (k := n) rfl rfl rfl Rt AN E5 Cg rfl (by omega) (by omega) (Ci n)) fun g15 => ?_
 refine Yo rfl (As (cs := #[_, _, _]) rfl rfl QZ rfl rfl) ?_
 refine Be rfl rfl rfl rfl (AX rfl rfl rfl) fun g18 => ?_
 refine Yo rfl (AF rfl rfl) ?_
 refine Flow.end rfl ?_
 simp only [zq, zr]
 refine Fin.then <| DC.seq <| Zs ?_
 iterate 2 refine Zm ?_
 refine Zx <| DC.block ?_
 refine DC.loop (ι := Nat) (fun i => i ≤ n)
  (fun i => [(4, .pointer (some ⟨g18, 0, none⟩)), (19, .int .i64 n), (20, .int .i64 i)])
  (fun i => [blk g18 263 #[.slice (some ⟨g13, 0, none⟩) n n, .slice (some ⟨g15, 0, none⟩) n n, .int .i64 n], blk g15 3 (ints (tab n (oneA i))).toArray, blk g13 3 (ints (tab n (idA i))).toArray]) (fun i => n - i) 0 (Nat.zero_le _) ⟨rfl, rfl, rfl, trivial⟩
  (.cons 0 rfl (.cons' 0 rfl (CF fun x _ => by simp [oneA]) (.cons' 0 rfl (CF fun x _ => by simp [idA]) .nil))) ?_
 intro i hi
 refine Zs ?_
 refine Zc ?_
 refine Zx <| DC.seq ?_
 refine Zd (fun c5 => ?_) fun c5 => ?_
 ·have hlt : i < n := by simpa using c5
  refine DC.skip <| Fin.then <| DC.seq <| DC.block <| Zs ?_
  refine Zm ?_
  refine Za ?_
  refine Zx ?_
  refine AC (cl := [.q, .q, .q, .q, .q, .q, .q, .q, .q, .q, .q, .q, .g, .q, .g]) (A := [0, 1, 3, 7, 0, 0, 32, 96, 224, 0, 0, 1535, 3583, 8191, 16383]) (order := [0, 1, 2, 3, 4, 5, 6, 7, 8, 9, 10, 11, 12, 13, 14]) ([blk g18 263 #[.slice (some ⟨g13, 0, none⟩) n n, .slice (some ⟨g15, 0, none⟩) n n, .int .i64 n]]) mixed (by kernel_rfl) (fun w hw => hw.pick (.cons 0 rfl .nil)) ?_
  refine Ym ?_
  refine Yo rfl (AA rfl rfl) ?_
  refine Yf Dw ?_
  refine Flow.old rfl rfl rfl (Ak rfl rfl GU (Bt rfl)) ?_
  iterate 2 refine Ym ?_
  refine Yo rfl (AA rfl rfl) ?_
  refine Yf Ih ?_
  refine Flow.old rfl rfl rfl (Ak rfl rfl BS (Bt rfl)) ?_
  iterate 2 refine Ym ?_
  refine Yo rfl (Aw rfl rfl rfl Tryz.underlying261 AN (by omega) (by omega) (by first | exact Az _ _ | exact AS _ _ _ | rfl)) ?_
  refine AD rfl rfl rfl rfl (AB (cs' := (ints (tab n (idA (i + 1)))).toArray) rfl rfl rfl AN rfl (by simp; omega) (by rw [BY]; exact congrArg (fun l => (ints l).toArray) (Cl fun x _ => Nx i x))) (fun w hw => hw.pick (.cons 0 rfl .nil)) ?_
  refine Yo rfl (Aw rfl rfl rfl Rt AN (by omega) (by omega) (by first | exact Az _ _ | exact AS _ _ _ | rfl)) ?_
  refine AD rfl rfl rfl rfl (AB (cs' := (ints (tab n (oneA (i + 1)))).toArray) rfl rfl rfl AN rfl (by simp; omega) (by rw [BY]; exact congrArg (fun l => (ints l).toArray) (Cl fun x _ => Mj i x))) (fun w hw => hw.pick (.cons 0 rfl .nil)) ?_
  refine Flow.end rfl ?_
  simp only [zq, zr]
  refine Fin.inBlock <| Fin.then <| DC.region ?_
  refine Zp ?_
  refine Zm ?_
  refine Seq.nil ?_
  refine Fin.again (i + 1) (by omega) (by omega) ⟨rfl, rfl, rfl, trivial⟩ (Pick.all _)
 refine DC.exit <| Ad <| Ad <| Ag <| Fin.then <| Zs ?_
 refine Zm ?_
 iterate 2 refine Za ?_
 refine Zx <| DC.ret ?_
 have hin : i = n := by simp at c5; omega
 subst hin
 refine Fin.weak (E' := [(2, _), (3, _)]) ⟨rfl, rfl, trivial⟩ (.cons 0 rfl (.cons 1 rfl (.cons 0 rfl .nil))) ?_
 refine AI (.inl rfl) rfl rfl rfl ?_
 refine ⟨g18, g13, g15, tab i (oneA i), rfl, by simp, ?_⟩
 unfold setsL
 rw [CF (f := idA i) (g := nat fun a => a) fun x hx => by unfold idA nat; rw [if_pos hx]]
/-- Numbers of the sets. -/
structure NumI where
 a : Nat
 c : Nat
 p : Nat → Nat
 f : Nat → Int
def Labels (r : Nat → Nat) (a c : Nat) (f : Nat → Int) : Prop :=
 (∀ x, x < a → 0 ≤ f x ∧ f x < c) ∧ (∀ x y, x < a → y < a → (f x = f y ↔ r x = r y)) ∧ (c : Int) = ((List.range a).countP fun x => r x = x) ∧ c ≤ a
theorem G5 {gp g1 g2 n : Nat} {p : Nat → Nat} {sz : List Int} {c : Int} {w : World} (hO : Own w (idsOf (setsL gp g1 g2 n p sz c)) w (setsL gp g1 g2 n p sz c)) (hp : Down p) (hn : n ≤ 1048576) :
  Calls Tryz.prog 177 #[.pointer (some ⟨gp, 0, none⟩)] w (Ret w (idsOf (setsL gp g1 g2 n p sz c)) fun r M =>
   ∃ g k f, r = .tuple #[.slice (some ⟨g, 0, none⟩) n n, .int .i64 (k : Nat)] ∧ Labels (rt p) n k f ∧ M = [blk g 3 (ints (tab n f)).toArray]) := by
 refine Ao (args := [_]) Tryz.func177 rfl Tryz.ntmps177 rfl hO ?_
 unfold setsL
 refine Zs ?_
 iterate 2 refine Za ?_
 refine Zx <| Zs ?_
 refine Zm ?_
 refine Zo (AA rfl rfl) ?_
 refine Zf Dw ?_
 refine Zl GU ?_
 refine Zn Tryz.underlying261 ?_
 refine Zw (Cb (k := n) rfl rfl rfl Rt AN E5 Cg rfl (by omega) (by omega) (Ci n)) fun g13 => ?_
 refine Za ?_
 refine Zx <| Zs ?_
 refine Za ?_
 refine Zx <| DC.seq <| Zs ?_
 refine Zm ?_
 refine Zn Rt ?_
 refine Zm ?_
 refine Zx <| DC.block ?_
 refine DC.loop (ι := NumI) (fun j => j.a ≤ n ∧ Down j.p ∧ (∀ x, rt j.p x = rt p x) ∧ Labels (rt p) j.a j.c j.f)
  (fun j => [(0, .pointer (some ⟨gp, 0, none⟩)), (4, .slice (some ⟨g13, 0, none⟩) n n), (5, .int .i64 j.c), (14, .slice (some ⟨g13, 0, none⟩) n n), (15, .int .i64 n), (16, .int .i64 j.a)])
  (fun j => [blk g13 3 (ints (tab n j.f)).toArray, blk gp 263 #[.slice (some ⟨g1, 0, none⟩) n n, .slice (some ⟨g2, 0, none⟩) n n, .int .i64 c], blk g1 3 (ints (tab n (nat j.p))).toArray]) (fun j => n - j.a) ⟨0, 0, p, fun _ => 0⟩
  ⟨Nat.zero_le _, hp, fun _ => rfl, by simp, by simp, by simp, Nat.le_refl _⟩ ⟨rfl, rfl, rfl, rfl, rfl, rfl, trivial⟩ (.cons 0 rfl (.cons 0 rfl (.cons 0 rfl .nil))) ?_
 rintro ⟨a, k, q, f⟩ ⟨ha, hq, hqr, hL1, hL2, hL3, hL4⟩
 dsimp only at ha hq hqr hL1 hL2 hL3 hL4 ⊢
 refine Zs ?_
 refine Zc ?_
 refine Zx <| DC.seq ?_
 refine Zd (fun c4 => ?_) fun c4 => ?_
 ·have hlt : a < n := by simpa using c4
  refine DC.skip <| Fin.then <| DC.seq <| DC.block <| Zs ?_
  refine Zm ?_
  refine Za ?_
  refine Zx <| DC.seq <| Zs ?_
  refine Zm ?_
  refine Zo (AA rfl rfl) ?_
  refine Zf Dw ?_
  refine Zl GU ?_
  refine Zm ?_
  refine Seq.gen rfl rfl (AQ NN rfl rfl rfl (Lc := [blk g1 3 (ints (tab n (nat q))).toArray]) (F := [blk g13 3 (ints (tab n f)).toArray, blk gp 263 #[.slice (some ⟨g1, 0, none⟩) n n, .slice (some ⟨g2, 0, none⟩) n n, .int .i64 c]]) (Rr (l₁ := [_, _]) (l₂ := [_])) (fun k hk => by simpa [blk] using hk) (fun w hw => Em (hw.pick (.cons 2 rfl .nil)).self hq hlt hn)) ?_
  rintro _ _ ⟨_, ⟨rfl, q2, hq2, hqr2, rfl⟩, rfl⟩
  simp only [zs]
  rw [hqr a]
  have hle := I0 p a
  have hidem : rt p (rt p a) = rt p a := Ov hp a
  obtain ⟨r, hr⟩ : ∃ r, r = rt p a := ⟨_, rfl⟩
  rw [← hr] at hle hidem ⊢
  have hcnt : ∀ (b : Bool), decide (rt p a = a) = b → (List.range (a + 1)).countP (fun x => rt p x = x) = (List.range a).countP (fun x => rt p x = x) + (if b then 1 else 0) := by
   intro b hb
   rw [List.range_succ, List.countP_append]
   subst hb
   simp [List.countP_cons]
  refine Za ?_
  refine Zx <| Zs ?_
  iterate 2 refine Zm ?_
  refine Zc ?_
  refine Zx ?_
  refine Zd (fun c7 => ?_) fun c7 => ?_
  ·have hra : r < a := by simpa using c7
   refine Zs ?_
   iterate 4 refine Zm ?_
   refine Zi Rt AN ?_
   refine Zu (Ak rfl rfl AJ (A8 (Bm (by omega)))) ?_
   refine Zi Rt AN ?_
   refine Zy (AB (cs' := (ints (tab n (upd f a (f r)))).toArray) rfl rfl rfl AN rfl (by simp; omega) BY) ?_
   refine Zx <| DC.exit <| Ad <| Ag <| Fin.then <| DC.region ?_
   refine Zp ?_
   refine Zm ?_
   refine Seq.nil ?_
   refine Fin.again (NumI.mk (a + 1) k q2 (upd f a (f r))) (by dsimp only; omega) ⟨by dsimp only; omega, hq2, fun x => by rw [hqr2, hqr], ?_, ?_, ?_, by dsimp only; omega⟩ ⟨rfl, rfl, rfl, rfl, rfl, rfl, trivial⟩ (.cons 1 rfl (.cons 1 rfl (.cons 0 rfl .nil)))
   ·intro x hx
    dsimp only at hx ⊢
    unfold upd
    split
    ·exact hL1 r hra
    exact hL1 x (by omega)
   ·intro x y hx hy
    dsimp only at hx hy ⊢
    unfold upd
    by_cases e1 : x = a
    ·by_cases e2 : y = a
     ·subst e1 e2; simp
     rw [if_pos e1, if_neg e2, hL2 r y hra (by omega), hidem, e1, ← hr]
    by_cases e2 : y = a
    ·rw [if_neg e1, if_pos e2, hL2 x r (by omega) hra, hidem, e2, ← hr]
    rw [if_neg e1, if_neg e2]; exact hL2 x y (by omega) (by omega)
   dsimp only
   rw [hcnt false (by simp; omega)]; simpa using hL3
  have hra : r = a := by simp at c7; omega
  subst hra
  refine DC.skip <| Fin.then <| Zs ?_
  iterate 3 refine Zm ?_
  refine Zi Rt AN ?_
  refine Zy (AB (cs' := (ints (tab n (upd f r (k : Int)))).toArray) rfl rfl rfl AN rfl (by simp; omega) BY) ?_
  refine Zx <| DC.region ?_
  refine Zm ?_
  refine Zp ?_
  refine Za ?_
  refine Seq.nil <| Fin.inBlock <| Fin.then <| DC.region ?_
  refine Zp ?_
  refine Zm ?_
  refine Seq.nil ?_
  refine Fin.again (NumI.mk (r + 1) (k + 1) q2 (upd f r (k : Int))) (by dsimp only; omega) ⟨by dsimp only; omega, hq2, fun x => by rw [hqr2, hqr], ?_, ?_, ?_, by dsimp only; omega⟩ ⟨rfl, rfl, rfl, rfl, rfl, rfl, trivial⟩ (.cons 1 rfl (.cons 1 rfl (.cons 0 rfl .nil)))
  ·intro x hx
   dsimp only at hx ⊢
   unfold upd
   split
   ·omega
   have := hL1 x (by omega); omega
  ·intro x y hx hy
   dsimp only at hx hy ⊢
   unfold upd
   by_cases e1 : x = r
   ·by_cases e2 : y = r
    ·subst e1 e2; simp
    rw [if_pos e1, if_neg e2, e1, ← hr]
    have h1 := hL1 y (by omega)
    have h2 := I0 p y
    constructor
    ·intro h; omega
    intro h; omega
   by_cases e2 : y = r
   ·rw [if_neg e1, if_pos e2, e2, ← hr]
    have h1 := hL1 x (by omega)
    have h2 := I0 p x
    constructor
    ·intro h; omega
    intro h; omega
   rw [if_neg e1, if_neg e2]; exact hL2 x y (by omega) (by omega)
  dsimp only
  rw [hcnt true (by simp; omega)]; simp at hL3 ⊢; omega
 refine DC.exit <| Ad <| Ad <| Ag <| Fin.then <| Zs ?_
 iterate 2 refine Zm ?_
 iterate 2 refine Za ?_
 refine Zx <| DC.ret ?_
 have han : a = n := by simp at c4; omega
 subst han
 refine Fin.weak (E' := [(2, _), (3, _)]) ⟨rfl, rfl, trivial⟩ (.cons 0 rfl .nil) ?_
 refine AI (.inl rfl) rfl rfl rfl ?_
 exact ⟨g13, k, f, rfl, ⟨hL1, hL2, hL3, hL4⟩, rfl⟩
structure OfI where
 i : Nat
 p : Nat → Nat
 sz : List Int
 c : Int
theorem Oc {n : Nat} {es : List Pr} {va : Value} {w : World} (hg : PrV w va es) (hV : Vld n es) :
  Calls Tryz.prog 153 #[.agg #[.int .i64 n, va]] w (Ret w [] fun r M =>
   ∃ g k f q, r = .tuple #[.slice (some ⟨g, 0, none⟩) n n, .int .i64 (k : Nat), .int .i64 0] ∧ Down q ∧ Parts es (rt q) ∧ Labels (rt q) n k f ∧ M = [blk g 3 (ints (tab n f)).toArray]) := by
 have hg0 := hg
 obtain ⟨A, cap, rfl, hr, hlc, hcm, hle⟩ := hg
 have hN1 : n ≤ 1048576 := by have := hV.hi; omega
 refine Ao (args := [_]) (L := []) Tryz.func153 rfl Tryz.ntmps153 rfl (Own.start _ _) ?_
 refine Zs ?_
 refine Zw (AX rfl rfl rfl) fun g1 => ?_
 iterate 3 refine Za ?_
 refine Zx <| DC.seq <| Zs ?_
 refine Zu (Aq (vs := [_, _]) rfl rfl Bs Bd rfl (Ai rfl)) ?_
 refine Seq.rel0 rfl rfl (Am JD rfl rfl rfl (fun w' hw => B1 (hg0.keep0 hw))) ?_
 rintro _ ⟨b, rfl, hb⟩
 refine Zo (Bb rfl rfl) ?_
 refine Zx ?_
 refine Zd (fun c1 => ?_) fun c1 => ?_
 ·refine Zs ?_
  iterate 3 refine Za ?_
  refine Zx <| DC.ret <| Aa ?_
  refine Bk (.inl rfl) rfl rfl rfl rfl ?_
  exact absurd (hb.2 hV) (by simpa using c1)
 refine DC.skip <| Fin.then <| Zs ?_
 refine Zf Cs ?_
 refine Zl AJ ?_
 refine Seq.rel rfl rfl (Am QD rfl rfl rfl (fun w' hw => Od hN1)) ?_
 rintro _ _ ⟨gp, ga, gb, sz, rfl, hsz, rfl⟩
 simp only [setsL, List.cons_append, List.nil_append]
 refine Zm ?_
 iterate 2 refine Ze ?_
 iterate 2 refine Za ?_
 refine Zx <| DC.seq <| Zs ?_
 refine Zf Br ?_
 refine Zl B9 ?_
 refine Zn Ru ?_
 refine Zm ?_
 refine Zx <| DC.block ?_
 refine DC.loop (ι := OfI) (fun j => j.i ≤ es.length ∧ Down j.p ∧ j.sz.length = n ∧ Parts (es.take j.i) (rt j.p))
  (fun j => [(5, .pointer (some ⟨gp, 0, none⟩)), (21, .slice A es.length cap), (22, .int .i64 es.length), (23, .int .i64 j.i)])
  (fun j => setsL gp ga gb n j.p j.sz j.c) (fun j => es.length - j.i) ⟨0, fun a => a, sz, n⟩ ⟨Nat.zero_le _, fun _ => Nat.le_refl _, hsz, Fy (fun x => (EF (p := fun a => a) rfl).symm) Mb⟩ ⟨rfl, rfl, rfl, rfl, trivial⟩ (.cons 0 rfl (.cons 0 rfl (.cons 0 rfl .nil))) ?_
 rintro ⟨i, p, sz', c⟩ ⟨hi, hp, hs, hP⟩
 dsimp only at hi hp hs hP ⊢
 refine Zs ?_
 refine Zc ?_
 refine Zx <| DC.seq ?_
 refine Zd (fun c5 => ?_) fun c5 => ?_
 ·have hlt : i < es.length := by simpa using c5
  obtain ⟨e, he⟩ : ∃ e, es[i]? = some e := ⟨_, Q8 hlt⟩
  obtain ⟨ad, rfl, hU, hVe⟩ := hr.pair he
  have ho := hV.ok i e he
  obtain ⟨u, hu⟩ := Rj ho.lo
  obtain ⟨v, hv⟩ := Rj (show 0 ≤ e.2 by have := ho.lo; have := ho.lt; omega)
  obtain rfl : e = ((u : Int), (v : Int)) := Prod.ext hu hv
  clear hu hv
  have huv : u < v := by have := ho.lt; simp at this; exact this
  have hvN : v < n := by have := ho.hi; simp at this; exact this
  replace hU : w.cell? (ad.add (i * 2)) = some (.int .i64 (u : Int)) := hU
  replace hVe : w.cell? (ad.add (i * 2 + 1)) = some (.int .i64 (v : Int)) := hVe
  refine DC.skip <| Fin.then <| DC.seq <| DC.block <| Zs ?_
  refine Zo (AT rfl rfl rfl Ru AP (by omega) (by omega) (by first | exact Az _ _ | exact AS _ _ _ | rfl)) ?_
  refine Zu (Aq (vs := [_, _]) rfl rfl BW AP rfl (CC hU hVe (by simp))) ?_
  refine Zw (Ay rfl B6 rfl) fun g8 => ?_
  refine Zy (Ah (cs' := #[_, _]) rfl rfl rfl AP rfl (Ra rfl) rfl) ?_
  refine Zx <| DC.region ?_
  refine Zm ?_
  refine Zf Bf ?_
  refine Zl AJ ?_
  refine Zf Bv ?_
  refine Zl AJ ?_
  refine Seq.gen rfl rfl (AQ QC rfl rfl rfl (Lc := setsL gp ga gb n p sz' c) (F := [blk g8 43 #[.int .i64 u, .int .i64 v]]) (Rr (l₁ := [_]) (l₂ := setsL gp ga gb n p sz' c)) (fun k hk => hk) (fun w' hw => K1 (hw.sub (Rg ..)).self hp (by omega) hvN hN1 hs hP)) ?_
  rintro _ _ ⟨_, ⟨q, sz2, c2, hq, hs2, hP2, rfl⟩, rfl⟩
  refine Seq.nil <| Fin.inBlock <| Fin.then <| DC.region ?_
  refine Zp ?_
  refine Zm ?_
  refine Seq.nil ?_
  refine Fin.again (OfI.mk (i + 1) q sz2 c2) (by dsimp only; omega) ⟨by dsimp only; omega, hq, hs2, ?_⟩ ⟨rfl, rfl, rfl, rfl, trivial⟩ (.cons 0 rfl (.cons 0 rfl (.cons 0 rfl .nil)))
  dsimp only
  rw [List.take_add_one, he]
  exact hP2
 refine DC.exit <| Ad <| Ad <| Ag <| Fin.then <| DC.seq ?_
 have hie : i = es.length := by simp at c5; omega
 subst hie
 rw [List.take_length] at hP
 refine DC.region ?_
 refine Zm ?_
 refine Seq.gen rfl rfl (AQ QB rfl rfl rfl (Lc := setsL gp ga gb n p sz' c) (F := []) (by rw [List.append_nil]) (fun k hk => hk) (fun w' hw => G5 hw.self hp hN1)) ?_
 rintro _ _ ⟨_, ⟨g, k, f, rfl, hL, rfl⟩, rfl⟩
 refine Zm ?_
 iterate 2 refine Ze ?_
 iterate 2 refine Za ?_
 refine Zx <| Zs ?_
 iterate 2 refine Zm ?_
 iterate 3 refine Za ?_
 refine Zx <| DC.ret ?_
 refine Bk (.inl rfl) rfl rfl rfl rfl ?_
 exact ⟨g, k, f, p, rfl, hp, hP, hL, rfl⟩
theorem LG : ∀ (a b : List Pr), frs (a ++ b) = frs a ++ frs b
 | [], b => rfl
 | e :: r, b => by simp [frs, LG r b]
structure BegI where
 i : Nat
 v : Value
theorem Iy {N : Int} {es : List Pr} {va : Value} {w : World} (hg : PrV w va es) (hl : es.length ≤ 4194304) :
  Calls Tryz.prog 88 #[.agg #[.int .i64 N, va]] w (Ret w [] fun v M => M = [slc v 3 1 (ints (frs es))]) := by
 obtain ⟨A, cap, rfl, hr, hlc, hcm, hle⟩ := hg
 refine Ao (args := [_]) (L := []) Tryz.func88 rfl Tryz.ntmps88 rfl (Own.start _ _) ?_
 refine Zs ?_
 refine Zw (AX rfl rfl rfl) fun g1 => ?_
 refine Za ?_
 refine Zx <| Zs ?_
 refine Zf Br ?_
 refine Zl B9 ?_
 refine Zn Ru ?_
 refine Zo (Ch rfl rfl rfl (by omega)) ?_
 refine Zw (Lw (l := 0) (k := 2 * es.length) rfl rfl rfl Rt AN E5 Cg rfl (by omega) (by omega) (by omega) (by omega) (EL _ rfl _)) fun g10 => ?_
 refine Za ?_
 refine Zx <| DC.seq <| Zs ?_
 refine Zf Br ?_
 refine Zl B9 ?_
 refine Zn Ru ?_
 refine Zm ?_
 refine Zx <| DC.block ?_
 refine DC.weak (E' := [(3, .slice (some ⟨g10, 0, none⟩) 0 (2 * es.length)), (12, .slice A es.length cap), (13, .int .i64 es.length), (14, .int .i64 0)]) ⟨rfl, rfl, rfl, rfl, trivial⟩ (.cons 0 rfl .nil) ?_
 refine DC.own (fun w hw => B3 (vs := []) (m := 1) (len := 0) (cap := 2 * es.length) rfl (by decide) (by omega) (by omega) (by simp) rfl hw) ?_
 refine DC.loop (ι := BegI) (fun j => j.i ≤ es.length)
  (fun j => [(3, j.v), (12, .slice A es.length cap), (13, .int .i64 es.length), (14, .int .i64 j.i)])
  (fun j => [slc j.v 3 1 (ints (frs (es.take j.i)))]) (fun j => es.length - j.i) ⟨0, _⟩ (Nat.zero_le _) ⟨rfl, rfl, rfl, rfl, trivial⟩ (.cons 0 rfl .nil) ?_
 rintro ⟨i, v⟩ hi
 dsimp only at hi ⊢
 refine Zs ?_
 refine Zc ?_
 refine Zx <| DC.seq ?_
 refine Zd (fun c3 => ?_) fun c3 => ?_
 ·have hlt : i < es.length := by simpa using c3
  obtain ⟨e, he⟩ : ∃ e, es[i]? = some e := ⟨_, Q8 hlt⟩
  obtain ⟨ad, rfl, hU, hV⟩ := hr.pair he
  refine DC.skip <| Fin.then <| DC.seq <| DC.block <| Zs ?_
  refine Zo (AT rfl rfl rfl Ru AP (by omega) (by omega) (by first | exact Az _ _ | exact AS _ _ _ | rfl)) ?_
  refine Zu (Aq (vs := [_, _]) rfl rfl BW AP rfl (CC hU hV (by simp))) ?_
  refine Zw (Ay rfl B6 rfl) fun g5 => ?_
  refine Zy (Ah (cs' := #[_, _]) rfl rfl rfl AP rfl (Ra rfl) rfl) ?_
  refine Zx <| DC.region ?_
  refine Zm ?_
  refine Zf Bf ?_
  refine Zl AJ ?_
  refine Zf Bv ?_
  refine Zl AJ ?_
  refine Zw (AM (cs := #[_, _]) rfl rfl Rt AN Cg rfl (by decide) (by decide) rfl rfl) fun g23 => ?_
  refine Seq.gen rfl rfl (AR rfl rfl rfl Rt AN E5 Cg rfl (by decide) (by decide) (fun w hw => hw.pick (.cons 2 rfl .nil)) (.inl ⟨_, _, rfl, Ai rfl⟩) rfl (BE [e.1, e.2] []) (by simp [Bp]; omega)) ?_
  rintro v24 _ rfl
  refine Za ?_
  refine Seq.nil <| Fin.inBlock <| Fin.then <| DC.region ?_
  refine Zp ?_
  refine Zm ?_
  refine Seq.nil ?_
  refine Fin.again ⟨i + 1, v24⟩ (by dsimp only; omega) (by dsimp only; omega) ⟨rfl, rfl, rfl, rfl, trivial⟩ (.cons' 0 rfl (by dsimp only; rw [List.take_add_one, he]; simp [LG, frs, ints]) .nil)
 refine DC.exit <| Ad <| Ad <| Ag <| Fin.then <| Zs ?_
 refine Zm ?_
 refine Za ?_
 refine Zx <| DC.ret ?_
 refine Zh ?_
 have hin : i = es.length := by simp at c3; omega
 subst hin
 rw [List.take_length]
/-! ### a row of bools -/
def bls (n : Nat) (f : Nat → Bool) : List Value := (List.range n).map fun i => .bool (f i)
@[simp] theorem bls_length (n : Nat) (f : Nat → Bool) : (bls n f).length = n := by simp [bls]
theorem FY {n i : Nat} (f : Nat → Bool) (h : i < n) : (bls n f).toArray[i]? = some (.bool (f i)) := by simp [bls, h]
def updB (f : Nat → Bool) (a : Nat) (b : Bool) : Nat → Bool := fun i => if i = a then b else f i
theorem FX {n a : Nat} (f : Nat → Bool) (b : Bool) : (bls n f).toArray.setIfInBounds a (.bool b) = (bls n (updB f a b)).toArray := by
 rw [List.setIfInBounds_toArray]
 congr 1
 apply List.ext_getElem?
 intro q
 rw [List.getElem?_set]
 by_cases hq : a = q
 ·subst hq
  by_cases h : a < n
  ·simp [bls, h, updB]
  simp [bls, h]
 rw [if_neg hq]
 by_cases h : q < n
 ·simp [bls, h, updB, Ne.symm hq]
 simp [bls, h]
theorem EM (n : Nat) : madeCells (Value.bool false).cells (n * 1) = (bls n fun _ => false).toArray := by
 rw [EL _ rfl]
 congr 1
 simp [bls, List.map_const']
structure ChkI where
 v : Nat
 f : Nat → Bool
structure ChkD (N : Int) (es : List Pr) (rs : List (List Int)) (v : Nat) (f : Nat → Bool) : Prop where
 ok : ∀ (x : Nat) l, x < v → rs[x]? = some l → (∀ h, h ∈ l → 0 ≤ h ∧ h < es.length * 2 ∧ fromV es h = x) ∧ l.Nodup ∧ (l.length : Int) = cnt es x
 seen : ∀ h, f h = true ↔ ∃ (x : Nat) (l : List Int), x < v ∧ rs[x]? = some l ∧ (h : Int) ∈ l
structure ChkP (es : List Pr) (rs : List (List Int)) (v : Nat) (l : List Int) (j : ChkI) : Prop where
 le : j.v ≤ l.length
 fr : ∀ h, h ∈ l.take j.v → 0 ≤ h ∧ h < es.length * 2 ∧ fromV es h = v
 nd : (l.take j.v).Nodup
 seen : ∀ h, j.f h = true ↔ (∃ (x : Nat) (l' : List Int), x < v ∧ rs[x]? = some l' ∧ (h : Int) ∈ l') ∨ (h : Int) ∈ l.take j.v
theorem JQ {N : Int} {es : List Pr} {rs : List (List Int)} {va v : Value} {w : World} (hg : PrV w va es) (hl : LsV w v rs) :
  Calls Tryz.prog 114 #[.agg #[.int .i64 N, va], v] w (RetP w [] (fun _ M => RotL N es rs ∧ M = []) (fun pv M => ∃ x e, pv = flt x e ∧ (e ≠ 0 ∧ ¬ RotL N es rs))) := by
 have hg0 := hg
 obtain ⟨A, cap, rfl, hr, hlc, hcm, hle⟩ := hg
 obtain ⟨B, capb, rfl, hrb, hlb, hcb, hleb⟩ := hl
 refine CK (K := []) (args := [_, _]) (L := []) Tryz.func114 rfl Tryz.ntmps114 rfl (Own.start _ _) ?_
 refine Zs ?_
 refine Zw (AX rfl rfl rfl) fun g2 => ?_
 refine Zx <| Zs ?_
 refine Zu (Aq (vs := [_, _]) rfl rfl Bs Bd rfl (Ai rfl)) ?_
 refine Seq.rel0 rfl rfl (Am JD rfl rfl rfl (fun w' hw => B1 (hg0.keep0 hw))) ?_
 rintro _ ⟨b, rfl, hb⟩
 refine Bw rfl rfl DH rfl rfl rfl (fun w' hw => Bu b 0 1 w') ?_ ?_
 ·rintro _ ⟨rfl, hbf⟩
  refine Aj <| ?_
  exact AZ ⟨0, 1, rfl, by decide, fun h => by have := hb.2 h.1; rw [hbf] at this; cases this⟩
 rintro _ hbt
 have hV : Vld N es := hb.1 hbt
 refine Zx <| Zs ?_
 refine Zm ?_
 refine Zn Ry ?_
 refine Zf Cs ?_
 refine Zl AJ ?_
 refine Zo (AW rfl rfl rfl) ?_
 refine Bw rfl rfl DH rfl rfl rfl (fun w' hw => Bu _ 0 110 w') ?_ ?_
 ·rintro _ ⟨rfl, hbf⟩
  refine Aj <| ?_
  exact AZ ⟨0, 110, rfl, by decide, fun h => by simp at hbf; exact hbf h.2.1⟩
 rintro _ hbN
 have hN : (rs.length : Int) = N := by simpa using hbN
 subst hN
 have hN1 := hV.hi
 have hfew := hV.few
 refine Zx <| Zs ?_
 refine Zu (Aq (vs := [_, _]) rfl rfl Bs Bd rfl (Ai rfl)) ?_
 refine Seq.rel rfl rfl (Am O9 rfl rfl rfl (fun w' hw => Eh (hg0.keep0 hw))) ?_
 intro v23 L23 hC23
 obtain ⟨_, gd, rfl, rfl⟩ := hC23.resolve_right (fun h => h.1 hV)
 simp only [Rb, List.cons_append, List.nil_append]
 refine Zm ?_
 iterate 2 refine Ze ?_
 iterate 2 refine Za ?_
 refine Zx <| Zs ?_
 refine Zu (Aq (vs := [_, _]) rfl rfl Bs Bd rfl (Ai rfl)) ?_
 refine Seq.rel rfl rfl (Am en88 rfl rfl rfl (fun w' hw => Iy (hg0.keep0 hw) hfew)) ?_
 rintro v27 _ rfl
 simp only [zs]
 refine Za ?_
 refine Zx <| DC.seq ?_
 refine DC.slcs (i := 0) rfl (by rw [Bp]; omega) ?_
 rintro A6 c6 rfl hA6
 rw [Bp]
 refine DC.region ?_
 refine Zm ?_
 refine Zn Rt ?_
 refine Zw (Cb (k := es.length * 2) rfl rfl rfl Rz IF Q7 PL (by omega) (by omega) (by omega) (EM _)) fun g30 => ?_
 refine Za ?_
 refine Zx <| Zs ?_
 refine Zm ?_
 refine Zn Ry ?_
 refine Zm ?_
 refine Zx <| DC.block ?_
 refine DC.loop (ι := ChkI) (fun j => j.v ≤ rs.length ∧ ChkD rs.length es rs j.v j.f)
  (fun j => [(4, .slice (some ⟨gd, 0, none⟩) rs.length rs.length), (6, .slice A6 (es.length * 2) c6), (7, .slice (some ⟨g30, 0, none⟩) (es.length * 2) (es.length * 2)), (31, .slice B rs.length capb), (32, .int .i64 rs.length), (33, .int .i64 j.v)])
  (fun j => [blk g30 4 (bls (es.length * 2) j.f).toArray, slc (.slice A6 (es.length * 2) c6) 3 1 (ints (frs es)), blk gd 3 (ints (tab rs.length (fun v => cnt es v))).toArray]) (fun j => rs.length - j.v) ⟨0, fun _ => false⟩
  ⟨Nat.zero_le _, fun _ _ h => absurd h (Rs _), fun h => ⟨fun e => by simp at e, fun ⟨x, l, h, _⟩ => absurd h (Rs _)⟩⟩ ⟨rfl, rfl, rfl, rfl, rfl, rfl, trivial⟩ (.cons 0 rfl (.cons 0 rfl (.cons 0 rfl .nil))) ?_
 rintro ⟨v, f⟩ ⟨hv, hd⟩
 dsimp only at hv hd ⊢
 refine Zs ?_
 refine Zc ?_
 refine Zx <| DC.seq ?_
 refine Zd (fun c7 => ?_) fun c7 => ?_
 ·have hvlt : v < rs.length := by simpa using c7
  obtain ⟨l, hl⟩ : ∃ l, rs[v]? = some l := ⟨_, Q8 hvlt⟩
  obtain ⟨adb, lv, rfl, hc, Al, capl, rfl, hrl, hl1, hl2, hl3⟩ := hrb v l hl
  refine DC.skip <| Fin.then <| DC.seq <| DC.block <| Zs ?_
  refine Zm ?_
  refine Zi Ry Cn ?_
  refine Zu (Ak rfl rfl BS (AY hc)) ?_
  iterate 2 refine Za ?_
  refine Zx <| DC.seq <| Zs ?_
  refine Zm ?_
  refine Zn Rt ?_
  refine Zm ?_
  refine Zx <| DC.block ?_
  refine DC.loop (ι := ChkI) (fun j => ChkP es rs v l j)
   (fun j => [(4, .slice (some ⟨gd, 0, none⟩) rs.length rs.length), (6, .slice A6 (es.length * 2) c6), (7, .slice (some ⟨g30, 0, none⟩) (es.length * 2) (es.length * 2)), (8, .int .i64 v), (9, .slice Al l.length capl), (31, .slice (some adb) rs.length capb), (32, .int .i64 rs.length), (33, .int .i64 v), (38, .slice Al l.length capl), (39, .int .i64 l.length), (40, .int .i64 j.v)])
   (fun j => [blk g30 4 (bls (es.length * 2) j.f).toArray, slc (.slice A6 (es.length * 2) c6) 3 1 (ints (frs es)), blk gd 3 (ints (tab rs.length (fun v => cnt es v))).toArray]) (fun j => l.length - j.v) ⟨0, f⟩
   ⟨Nat.zero_le _, by simp, by simp, fun h => by rw [hd.seen h]; simp⟩ ⟨rfl, rfl, rfl, rfl, rfl, rfl, rfl, rfl, rfl, rfl, rfl, trivial⟩ (Pick.all _) ?_
  rintro ⟨k, f2⟩ hP
  have hPle := hP.le
  have hPse := hP.seen
  dsimp only at hPle hPse ⊢
  refine Zs ?_
  refine Zc ?_
  refine Zx <| DC.seq ?_
  refine Zd (fun c10 => ?_) fun c10 => ?_
  ·have hklt : k < l.length := by simpa using c10
   obtain ⟨h, hh⟩ : ∃ h, l[k]? = some h := ⟨_, Q8 hklt⟩
   obtain ⟨adl, rfl, hch⟩ := hrl.int hh
   have hmem := Rc hh
   refine DC.skip <| Fin.then <| DC.seq <| DC.block <| Zs ?_
   refine Zi Rt AN ?_
   refine Zu (Ak rfl rfl AJ (AY hch)) ?_
   refine Za ?_
   refine Zx <| Zs ?_
   refine Zm ?_
   refine Zo (Ck rfl rfl rfl) ?_
   refine Zm ?_
   refine Seq.split 46 rfl (fun k12_2 => ?_) (fun k12_2 => ?_)
   ·refine Zm ?_
    refine Zm ?_
    refine Zn Rt ?_
    refine Zc ?_
    refine Zt ?_
    refine Zm ?_
    refine Seq.split 52 rfl (fun k12_8 => ?_) (fun k12_8 => ?_)
    ·have hh0 : 0 ≤ h := by simpa using k12_2
     have hh1 : h < es.length * 2 := by simp at k12_8; omega
     obtain ⟨x6, hx6, hfv⟩ := EP es hh0 hh1
     obtain ⟨ad6, rfl⟩ := hA6 (fun e => by rw [← List.length_eq_zero_iff, Bp] at e; omega)
     iterate 2 refine Zm ?_
     refine Zi Rt AN ?_
     refine Zu (Ak rfl rfl AJ (BJ (i := 1) rfl hx6 (by rw [Bp]; omega))) ?_
     refine Zm ?_
     refine Zo (AW rfl rfl rfl) ?_
     refine Zt ?_
     refine Zm ?_
     refine Bw rfl rfl DH rfl rfl rfl (fun w' hw => Bu _ v 111 w') ?_ ?_
     ·rintro _ ⟨rfl, hbf⟩
      refine Aj <| At <| Aj <| Aj <| At <| Aj <| At <| Aj <| Aj <| At <| ?_
      refine AZ ⟨v, 111, rfl, by decide, fun hok => ?_⟩
      have := ((hok.2.2 v l hl).1 h hmem).2.2
      rw [hfv] at this
      simp at hbf
      exact hbf this
     rintro _ hbt1
     have hfr : fromV es h = v := by rw [hfv]; simpa using hbt1
     obtain ⟨hn, rfl⟩ := Rj hh0
     refine Zx <| Zs ?_
     iterate 2 refine Zm ?_
     refine Zi Rz IF ?_
     refine Zu (Ak rfl rfl MO (A8 (FY f2 (by omega)))) ?_
     refine Zo (Bb rfl rfl) ?_
     refine Zm ?_
     refine Bw rfl rfl DH rfl rfl rfl (fun w' hw => Bu _ v 112 w') ?_ ?_
     ·rintro _ ⟨rfl, hbf⟩
      refine Aj <| At <| Aj <| Aj <| At <| Aj <| At <| Aj <| Aj <| At <| ?_
      refine AZ ⟨v, 112, rfl, by decide, fun hok => ?_⟩
      have hs : f2 hn = true := by simpa using hbf
      rcases (hPse hn).1 hs with ⟨x, l', hx, hl', hm⟩ | hm
      ·have := ((hok.2.2 x l' hl').1 _ hm).2.2
       omega
      obtain ⟨q, hq⟩ := Rf.1 hm
      rw [List.getElem?_take] at hq
      split at hq
      ·have := (List.getElem?_inj (by omega) (hok.2.2 v l hl).2.1).1 (hq.trans hh.symm)
       omega
      cases hq
     rintro _ hbt2
     have hns : ¬ (f2 hn = true) := by simpa using hbt2
     refine Zx <| DC.region ?_
     iterate 2 refine Zm ?_
     refine Zi Rz IF ?_
     refine Zy (AB (cs' := (bls (es.length * 2) (updB f2 hn true)).toArray) rfl rfl rfl IF rfl (by simp; omega) (FX f2 true)) ?_
     refine Seq.nil <| Fin.inBlock <| Fin.then <| DC.region ?_
     refine Zp ?_
     refine Zm ?_
     refine Seq.nil ?_
     refine Fin.again (ChkI.mk (k + 1) (updB f2 hn true)) (by dsimp only; omega) ?_ ⟨rfl, rfl, rfl, rfl, rfl, rfl, rfl, rfl, rfl, rfl, rfl, trivial⟩ (Pick.all _)
     have htk : l.take (k + 1) = l.take k ++ [(hn : Int)] := by rw [List.take_add_one, hh]; rfl
     have hnk : (hn : Int) ∉ l.take k := fun hm => hns ((hPse hn).2 (.inr hm))
     refine ⟨by dsimp only; omega, ?_, ?_, ?_⟩
     ·dsimp only
      intro h' hh'
      rw [htk, List.mem_append] at hh'
      rcases hh' with hh' | hh'
      ·exact hP.fr h' hh'
      simp at hh'; subst hh'; exact ⟨hh0, hh1, hfr⟩
     ·dsimp only
      rw [htk, List.nodup_append]
      refine ⟨hP.nd, by simp, fun a ha b hb e => ?_⟩
      simp at hb; subst hb; subst e; exact hnk ha
     intro h'
     dsimp only
     rw [htk]
     unfold updB
     split
     ·rename_i e; subst e; simp
     rename_i e
     rw [hPse h', List.mem_append]
     have : ¬ ((h' : Int) = (hn : Int)) := by omega
     simp [this]
    iterate 6 refine Zk ?_
    refine Zg ?_
    refine Zm ?_
    refine Bw rfl rfl DH rfl rfl rfl (fun w' hw => Bu _ v 111 w') ?_ ?_
    ·rintro _ ⟨rfl, hbf⟩
     refine Aj <| At <| Aj <| Aj <| At <| Aj <| At <| Aj <| Aj <| At <| ?_
     refine AZ ⟨v, 111, rfl, by decide, fun hok => ?_⟩
     have := ((hok.2.2 v l hl).1 h hmem)
     simp at k12_8 k12_2; omega
    rintro _ h9
    cases h9
   iterate 4 refine Zk ?_
   refine Zg ?_
   refine Zm ?_
   iterate 6 refine Zk ?_
   refine Zg ?_
   refine Zm ?_
   refine Bw rfl rfl DH rfl rfl rfl (fun w' hw => Bu _ v 111 w') ?_ ?_
   ·rintro _ ⟨rfl, hbf⟩
    refine Aj <| At <| Aj <| Aj <| At <| Aj <| At <| Aj <| Aj <| At <| ?_
    refine AZ ⟨v, 111, rfl, by decide, fun hok => ?_⟩
    have := ((hok.2.2 v l hl).1 h hmem)
    simp at k12_2; omega
   rintro _ h9
   cases h9
  refine DC.exit <| Ad <| Ad <| Ag <| Fin.then ?_
  have hkl : k = l.length := by simp at c10; omega
  subst hkl
  have hPfr := hP.fr
  have hPnd := hP.nd
  dsimp only at hPfr hPnd
  rw [List.take_length] at hPfr hPnd hPse
  refine DC.region ?_
  refine Zm ?_
  refine Zn Rt ?_
  iterate 2 refine Zm ?_
  refine Zi Rt AN ?_
  refine Zu (Ak rfl rfl AJ (A8 (Bm hvlt))) ?_
  refine Zo (AW rfl rfl rfl) ?_
  refine Zm ?_
  refine Bw rfl rfl DH rfl rfl rfl (fun w' hw => Bu _ v 113 w') ?_ ?_
  ·rintro _ ⟨rfl, hbf⟩
   refine At <| Aj <| Aj <| At <| ?_
   refine AZ ⟨v, 113, rfl, by decide, fun hok => ?_⟩
   have := (hok.2.2 v l hl).2.2
   simp at hbf
   exact hbf this
  rintro _ hbt3
  have hcnt : (l.length : Int) = cnt es v := by simpa using hbt3
  refine Seq.nil <| Fin.inBlock <| Fin.then <| DC.region ?_
  refine Zp ?_
  refine Zm ?_
  refine Seq.nil ?_
  refine Fin.again (ChkI.mk (v + 1) f2) (by dsimp only; omega) ⟨by dsimp only; omega, ?_, ?_⟩ ⟨rfl, rfl, rfl, rfl, rfl, rfl, trivial⟩ (Pick.all _)
  ·intro x l' hx hl'
   dsimp only at hx
   rcases Re.1 hx with hx | rfl
   ·exact hd.ok x l' hx hl'
   rw [hl] at hl'; cases hl'
   exact ⟨hPfr, hPnd, hcnt⟩
  intro h'
  dsimp only
  rw [hPse h']
  constructor
  ·rintro (⟨x, l', hx, h1, h2⟩ | h1)
   ·exact ⟨x, l', by omega, h1, h2⟩
   exact ⟨v, l, by omega, hl, h1⟩
  rintro ⟨x, l', hx, h1, h2⟩
  rcases Re.1 hx with hx | rfl
  ·exact .inl ⟨x, l', hx, h1, h2⟩
  rw [hl] at h1; cases h1; exact .inr h2
 refine DC.exit <| Ad <| Ad <| Ag ?_
 have hvl : v = rs.length := by simp at c7; omega
 subst hvl
 refine Fin.weak (E' := []) trivial .nil ?_
 refine CX (.inr rfl) (BL (.inr rfl) rfl ⟨⟨hV, rfl, fun x l hl => hd.ok x l (Q9.1 hl).1 hl⟩, rfl⟩)
end Go.Fl
