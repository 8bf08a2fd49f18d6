/- Part 5 of the proof: the library of the walk and the walks, in build order; no condition. -/
import Derived.Test.YthjmapekjggdjaaGreatDoorZC4
set_option linter.unusedVariables false
set_option linter.unusedSimpArgs false
set_option linter.unusedSectionVars false
set_option maxRecDepth 100000
namespace Go.Fl
open Go Go.Proofs
theorem Q8 {vb : Value} {bs : List UInt8} {c a : Int} {w : World} (hB : ByV w vb bs) (h : rawF bs = .bad c a) :
  Calls Tryz.prog 38 #[vb] w (Ret w [] fun r M => M = [] ∧ c ≠ 0 ∧ r = .tuple #[.agg #[.int .i64 0, .slice none 0 0], .agg #[.int .i64 c, .int .i64 a]]) := by
 refine Calls.mono (Jl hB) ?_
 rintro e w' ⟨v, L', rfl, ⟨n, ps, vp, h1, _⟩ | ⟨c', a', h1, h2, rfl, rfl⟩, hO⟩
 ·rw [h] at h1; cases h1
 rw [h] at h1; cases h1; exact ⟨_, _, rfl, ⟨rfl, h2, rfl⟩, hO⟩
theorem Qj {vb : Value} {bs : List UInt8} {c a : Int} {w : World} (hB : ByV w vb bs) (h : rawF bs = .bad c a) :
  Calls Tryz.prog 21 #[vb] w (Ret w [] fun r M => M = [] ∧ c ≠ 0 ∧ r = .tuple #[.agg #[.int .i64 0, .slice none 0 0], .agg #[.int .i64 c, .int .i64 a]]) := by
 refine Ao (K := []) (args := [_]) (L := []) Tryz.func21 rfl Tryz.ntmps21 rfl (Own.start _ _) ?_
 refine Zs ?_
 refine Zw (AD rfl GM rfl) fun g2 => ?_
 refine Zw (AD rfl Iq rfl) fun g3 => ?_
 refine Zx <| Zs ?_
 refine Zm ?_
 refine Seq.rel0 rfl rfl (Ar SF rfl rfl rfl (fun w hw => Q8 (hB.keep0 hw) h)) ?_
 rintro _ ⟨hc0, rfl⟩
 refine Zm ?_
 iterate 2 refine Ze ?_
 refine Zw (AD rfl Ru rfl) fun g4 => ?_
 refine Zw (AD rfl Iq rfl) fun g5 => ?_
 refine Zy (At (cs' := #[_, _]) rfl rfl rfl Fb rfl (TB rfl) rfl) ?_
 refine Zy (At (cs' := #[_, _]) rfl rfl rfl B1 rfl (TB rfl) rfl) ?_
 refine Zx <| DC.seq <| Zs ?_
 refine Zf Gw ?_
 refine Zl F6 ?_
 refine Zo (BK rfl rfl rfl) ?_
 refine Zx ?_
 refine Zd (fun c2 => ?_) fun c2 => ?_
 ·refine DC.seq ?_
  refine AF (cl := [.q, .q, .g, .g]) (A := [0, 0, 1, 7]) (order := [0, 1, 2, 3]) ([blk g5 51 #[.int .i64 c, .int .i64 a]]) mixed (by kernel_rfl) (fun w hw => hw.pick (.cons 0 rfl .nil)) ?_
  refine Yo rfl (AA (cs := #[_, _]) rfl rfl F4 rfl rfl) ?_
  refine Flow.old rfl rfl rfl (Ay (vs := [_, _]) rfl rfl DP B1 rfl (Ak rfl)) ?_
  refine AS rfl rfl rfl rfl (At (cs' := #[_, _]) rfl rfl rfl Bg rfl (TB rfl) rfl) (fun w hw => hw.pick (.cons 0 rfl .nil)) ?_
  refine AS rfl rfl rfl rfl (At (cs' := #[_, _]) rfl rfl rfl B1 rfl (TB rfl) rfl) (fun w hw => hw.pick (.cons 0 rfl .nil)) ?_
  refine Flow.end rfl ?_
  simp only [zq, zr]
  refine Fin.then <| DC.ret <| Aa ?_
  refine Cq (cs := #[_, _]) (cs' := #[_, _]) (.inl rfl) rfl rfl rfl Bn Bg DP B1 ?_
  exact ⟨[], fun w hw => hw.pick .nil, rfl, hc0, rfl⟩
 exact absurd c2 (by simpa using hc0)
theorem OJ {vb vc : Value} {bs : List UInt8} {c a : Int} {w : World} (hB : ByV w vb bs) (h : rawF bs = .bad c a) :
  Calls Tryz.prog 19 #[vb, vc] w (Ret w [] fun r M => M = [] ∧ r = .int .i64 180) := by
 refine Ao (K := []) (args := [_, _]) (L := []) Tryz.func19 rfl Tryz.ntmps19 rfl (Own.start _ _) ?_
 refine Zs ?_
 refine Za ?_
 refine Zx <| Zs ?_
 refine Zm ?_
 refine Seq.rel0 rfl rfl (Ar RV rfl rfl rfl (fun w hw => Qj (hB.keep0 hw) h)) ?_
 rintro _ ⟨hc0, rfl⟩
 refine Zm ?_
 iterate 2 refine Ze ?_
 refine Zw (AD rfl GM rfl) fun g5 => ?_
 refine Zw (AD rfl Iq rfl) fun g6 => ?_
 refine Zy (At (cs' := #[_, _]) rfl rfl rfl Bg rfl (TB rfl) rfl) ?_
 refine Zy (At (cs' := #[_, _]) rfl rfl rfl B1 rfl (TB rfl) rfl) ?_
 refine Zx <| DC.seq <| Zs ?_
 refine Zf Gw ?_
 refine Zl F6 ?_
 refine Zo (BK rfl rfl rfl) ?_
 refine Zx ?_
 refine Zd (fun c2 => ?_) fun c2 => ?_
 ·refine Zs ?_
  refine Za ?_
  refine Zx <| DC.ret <| Aa ?_
  refine Fin.weak (E' := [(4, _)]) ⟨rfl, trivial⟩ .nil ?_
  refine Zh ?_
  exact ⟨rfl, rfl⟩
 exact absurd c2 (by simpa using hc0)
theorem Fp {w : World} : Calls Tryz.prog 29 #[] w (Ret w [] fun r M => ∃ g, r = .agg #[.int .i64 4, .slice (some ⟨g, 0, none⟩) 6 6] ∧ M = [blk g 43 (prs es4).toArray]) := by
 refine Ao (K := []) (args := []) (L := []) Tryz.func29 rfl Tryz.ntmps29 rfl (Own.start _ _) ?_
 refine Zs ?_
 refine Zw (AD rfl GM rfl) fun g0 => ?_
 refine Zx <| Zs ?_
 refine Zo (AA (cs := #[_, _]) rfl rfl F3 rfl rfl) ?_
 refine Zo (AA (cs := #[_, _]) rfl rfl F3 rfl rfl) ?_
 refine Zo (AA (cs := #[_, _]) rfl rfl F3 rfl rfl) ?_
 refine Zo (AA (cs := #[_, _]) rfl rfl F3 rfl rfl) ?_
 refine Zo (AA (cs := #[_, _]) rfl rfl F3 rfl rfl) ?_
 refine Zo (AA (cs := #[_, _]) rfl rfl F3 rfl rfl) ?_
 refine Zw (AP (cs := #[_, _, _, _, _, _, _, _, _, _, _, _]) rfl rfl TU AY CE rfl (by decide) (by decide) rfl rfl) fun g7 => ?_
 refine Zo (AA (cs := #[_, _]) rfl rfl F4 rfl rfl) ?_
 refine Zy (At (cs' := #[_, _]) rfl rfl rfl Bg rfl (TB rfl) rfl) ?_
 refine Zx <| DC.ret ?_
 refine Cw (cs := #[_, _]) (.inl rfl) rfl rfl Bn Bg ?_
 exact ⟨_, fun w hw => hw.pick (.cons 0 rfl .nil), g7, rfl, rfl⟩
theorem KZ {w0 w : World} {K : List Nat} {L : List Chunk} {g t : Nat} {v0 v1 v2 v3 : Value} {l0 l1 l2 l3 : List Int} [h : Find L g t #[v0, v1, v2, v3]] (hw : Own w0 K w L) (h0 : SlV w v0 l0) (h1 : SlV w v1 l1) (h2 : SlV w v2 l2) (h3 : SlV w v3 l3) :
  LsV w (.slice (some ⟨g, 0, none⟩) 4 4) [l0, l1, l2, l3] := by
 have hg := hw.holds _ h.mem
 refine ⟨some ⟨g, 0, none⟩, 4, rfl, fun i l hl => ?_, by simp, by decide, by simp⟩
 rcases RE hl with ⟨rfl, rfl⟩ | ⟨rfl, rfl⟩ | ⟨rfl, rfl⟩ | ⟨rfl, rfl⟩
 ·exact ⟨_, v0, rfl, by rw [AC]; exact LJ hg rfl, h0⟩
 ·exact ⟨_, v1, rfl, by rw [AC]; exact LJ hg rfl, h1⟩
 ·exact ⟨_, v2, rfl, by rw [AC]; exact LJ hg rfl, h2⟩
 exact ⟨_, v3, rfl, by rw [AC]; exact LJ hg rfl, h3⟩
theorem M8 {w : World} {c : Nat} (hc : c ≤ 9223372036854775807) : PrV w (.slice none 0 c) [] := ⟨none, c, rfl, fun j u h => by simp [prs] at h, Nat.zero_le _, hc, by simp⟩
theorem QL {w : World} {c : Nat} (hc : c ≤ 9223372036854775807) : LsV w (.slice none 0 c) [] := ⟨none, c, rfl, fun i l h => by simp at h, Nat.zero_le _, hc, by simp⟩
theorem Kr {w : World} (hp : Pow w) : Calls Tryz.prog 9 #[] w (Ret w [] fun r M => M = [] ∧ r = .bool true) := by
 refine Ao (K := []) (args := []) (L := []) Tryz.func9 rfl Tryz.ntmps9 rfl (Own.start _ _) ?_
 refine Zs ?_
 refine Za ?_
 refine Zx <| Zs ?_
 refine Seq.rel rfl rfl (Ar RU rfl rfl rfl (fun w hw => Fp)) ?_
 rintro _ _ ⟨g5, rfl, rfl⟩
 simp only [List.cons_append, List.nil_append, List.append_nil]
 refine Zw (AP (cs := #[_, _, _]) rfl rfl TT AQ B0 rfl (by decide) (by decide) rfl rfl) fun g6 => ?_
 refine Zw (AP (cs := #[_, _, _]) rfl rfl TT AQ B0 rfl (by decide) (by decide) rfl rfl) fun g7 => ?_
 refine Zw (AP (cs := #[_, _, _]) rfl rfl TT AQ B0 rfl (by decide) (by decide) rfl rfl) fun g8 => ?_
 refine Zw (AP (cs := #[_, _, _]) rfl rfl TT AQ B0 rfl (by decide) (by decide) rfl rfl) fun g9 => ?_
 refine Zw (AP (cs := #[_, _, _, _]) rfl rfl TW BE Da rfl (by decide) (by decide) rfl rfl) fun g10 => ?_
 refine Zo (AA (cs := #[_, _, _]) rfl rfl Qe rfl rfl) ?_
 refine Seq.rel0 rfl rfl (Ar QZ rfl rfl rfl (fun w hw => DG (N := 4) (es := es4) (pl := true) (ls := lsA) (cs := []) (GW (g := g5) hw rfl rfl (by decide)) (KZ (g := g10) hw (B4 (g := g6) hw rfl rfl (by decide)) (B4 (g := g7) hw rfl rfl (by decide)) (B4 (g := g8) hw rfl rfl (by decide)) (B4 (g := g9) hw rfl rfl (by decide))) (M8 (by decide)) (hp.keep0 hw) (by decide))) ?_
 rintro _ rfl
 rw [chkA]
 refine Za ?_
 refine Zx <| Zs ?_
 refine Seq.rel rfl rfl (Ar RU rfl rfl rfl (fun w hw => Fp)) ?_
 rintro _ _ ⟨g13, rfl, rfl⟩
 simp only [List.cons_append, List.nil_append, List.append_nil]
 refine Zw (AP (cs := #[_, _, _]) rfl rfl TT AQ B0 rfl (by decide) (by decide) rfl rfl) fun g14 => ?_
 refine Zw (AP (cs := #[_, _, _]) rfl rfl TT AQ B0 rfl (by decide) (by decide) rfl rfl) fun g15 => ?_
 refine Zw (AP (cs := #[_, _, _]) rfl rfl TT AQ B0 rfl (by decide) (by decide) rfl rfl) fun g16 => ?_
 refine Zw (AP (cs := #[_, _, _]) rfl rfl TT AQ B0 rfl (by decide) (by decide) rfl rfl) fun g17 => ?_
 refine Zw (AP (cs := #[_, _, _, _]) rfl rfl TW BE Da rfl (by decide) (by decide) rfl rfl) fun g18 => ?_
 refine Zo (AA (cs := #[_, _, _]) rfl rfl Qe rfl rfl) ?_
 refine Seq.rel0 rfl rfl (Ar QZ rfl rfl rfl (fun w hw => DG (N := 4) (es := es4) (pl := true) (ls := lsB) (cs := []) (GW (g := g13) hw rfl rfl (by decide)) (KZ (g := g18) hw (B4 (g := g14) hw rfl rfl (by decide)) (B4 (g := g15) hw rfl rfl (by decide)) (B4 (g := g16) hw rfl rfl (by decide)) (B4 (g := g17) hw rfl rfl (by decide))) (M8 (by decide)) (hp.keep0 hw) (by decide))) ?_
 rintro _ rfl
 rw [chkB]
 refine Za ?_
 refine Zx <| Zs ?_
 refine Seq.rel rfl rfl (Ar RU rfl rfl rfl (fun w hw => Fp)) ?_
 rintro _ _ ⟨g21, rfl, rfl⟩
 simp only [List.cons_append, List.nil_append, List.append_nil]
 refine Zo (AA (cs := #[_, _]) rfl rfl F3 rfl rfl) ?_
 refine Zo (AA (cs := #[_, _]) rfl rfl F3 rfl rfl) ?_
 refine Zw (AP (cs := #[_, _, _, _]) rfl rfl TU AY CE rfl (by decide) (by decide) rfl rfl) fun g24 => ?_
 refine Zo (AA (cs := #[_, _, _]) rfl rfl Qe rfl rfl) ?_
 refine Seq.rel0 rfl rfl (Ar QZ rfl rfl rfl (fun w hw => DG (N := 4) (es := es4) (pl := false) (ls := []) (cs := cs4) (GW (g := g21) hw rfl rfl (by decide)) (QL (by decide)) (GW (g := g24) hw rfl rfl (by decide)) (hp.keep0 hw) (by simp))) ?_
 rintro _ rfl
 rw [chkC]
 refine Za ?_
 refine Zx <| Zs ?_
 refine Zw (AP (cs := #[_, _, _, _, _, _, _, _]) rfl rfl TV Dw Et rfl (by decide) (by decide) rfl rfl) fun g27 => ?_
 refine Seq.gen rfl rfl (RK (cs := #[_, _, _, _, _, _, _, _]) rfl rfl TV Tryz.underlying5 (fun w hw => hw)) ?_
 rintro _ _ ⟨rfl, rfl⟩
 refine Seq.rel0 rfl rfl (Ar RW rfl rfl rfl (fun w hw => OJ (bs := txt4) (c := 24) (a := 6) (Q5 (bs := txt4) (cap := 8) (sp := []) hw 0 rfl (by decide) (by decide)) raw4)) ?_
 rintro _ rfl
 refine Za ?_
 refine Zx <| Zs ?_
 refine Zm ?_
 refine Zo (AN rfl rfl rfl) ?_
 refine Zm ?_
 refine Seq.split 32 rfl (fun k5_2 => ?_) (fun k5_2 => ?_)
 ·refine Zm ?_
  refine Zo (AN rfl rfl rfl) ?_
  refine Zt ?_
  refine Zm ?_
  refine Seq.split 36 rfl (fun k5_6 => ?_) (fun k5_6 => ?_)
  ·refine Zm ?_
   refine Zo (AN rfl rfl rfl) ?_
   refine Zt ?_
   refine Zm ?_
   refine Seq.split 40 rfl (fun k5_10 => ?_) (fun k5_10 => ?_)
   ·refine Zm ?_
    refine Zo (AN rfl rfl rfl) ?_
    refine Zt ?_
    refine Za ?_
    refine Zx <| DC.ret ?_
    refine Fin.weak (E' := [(0, _)]) ⟨rfl, trivial⟩ .nil ?_
    refine Zh ?_
    exact ⟨rfl, rfl⟩
   exact absurd k5_10 (by decide)
  exact absurd k5_6 (by decide)
 exact absurd k5_2 (by decide)
theorem Dq {es : List Pr} {h : Int} (h0 : 0 ≤ h) (h1 : h < es.length * 2) : ∃ e, es[(h / 2).toNat]? = some e ∧ fromV es h = (if h % 2 = 0 then e.1 else e.2) := by
 obtain ⟨k, rfl⟩ := TJ h0
 obtain ⟨e, he, hf⟩ := PF (es := es) (h := k) (by omega)
 refine ⟨e, by rw [show ((k : Int) / 2).toNat = k / 2 by omega]; exact he, ?_⟩
 unfold fromV
 rw [if_pos h0, TC, hf]
 by_cases hp : k % 2 = 0
 ·rw [if_pos hp, if_pos (by omega)]; rfl
 rw [if_neg hp, if_neg (by omega)]; rfl
theorem CW {N h : Int} {es : List Pr} {va : Value} {w : World} (hg : PrV w va es) (h0 : 0 ≤ h) (h1 : h < es.length * 2) :
  Calls Tryz.prog 100 #[.agg #[.int .i64 N, va], .int .i64 h] w (Ret w [] fun r M => M = [] ∧ r = .int .i64 (fromV es h)) := by
 obtain ⟨A, cap, rfl, hr, hlc, hcm, hl⟩ := hg
 obtain ⟨e, he, hf⟩ := Dq h0 h1
 obtain ⟨ad, rfl, hU, hVe⟩ := hr.pair he
 refine Ao (K := []) (args := [_, _]) (L := []) Tryz.func100 rfl Tryz.ntmps100 rfl (Own.start _ _) ?_
 refine Zs ?_
 refine Zw (Ba rfl rfl rfl) fun g2 => ?_
 refine Za ?_
 refine Zx <| DC.seq <| Zs ?_
 refine Zm ?_
 refine Zo (IW rfl rfl rfl (by omega) (by omega)) ?_
 refine Zo (AN rfl rfl rfl) ?_
 refine Zx ?_
 refine Zd (fun c1 => ?_) fun c1 => ?_
 ·refine Zs ?_
  refine Zf Be ?_
  refine Zl Bu ?_
  refine Zm ?_
  refine Zo (IX rfl rfl rfl (by omega) (by omega)) ?_
  refine Zo (AM (ad' := ad.add ((h / 2).toNat * 2)) rfl rfl rfl TU AY (by omega) (by omega) rfl) ?_
  refine Zo (Bq (ad' := ad.add ((h / 2).toNat * 2)) rfl rfl Bb (by simp [Addr.add])) ?_
  refine Zu (Ai rfl rfl AJ (Aw hU)) ?_
  refine Za ?_
  refine Zx <| DC.ret <| Aa ?_
  refine Fin.weak (E' := [(4, _)]) ⟨rfl, trivial⟩ .nil ?_
  refine Zh ?_
  refine ⟨rfl, ?_⟩
  rw [hf, if_pos (by simpa using c1)]
 refine DC.skip <| Fin.then <| Zs ?_
 refine Zf Be ?_
 refine Zl Bu ?_
 refine Zm ?_
 refine Zo (IX rfl rfl rfl (by omega) (by omega)) ?_
 refine Zo (AM (ad' := ad.add ((h / 2).toNat * 2)) rfl rfl rfl TU AY (by omega) (by omega) rfl) ?_
 refine Zo (Bq (ad' := ad.add ((h / 2).toNat * 2 + 1)) rfl rfl Bk (B6 _ _ _ (by decide))) ?_
 refine Zu (Ai rfl rfl AJ (Aw hVe)) ?_
 refine Za ?_
 refine Zx <| DC.ret ?_
 refine Fin.weak (E' := [(4, _)]) ⟨rfl, trivial⟩ .nil ?_
 refine Zh ?_
 refine ⟨rfl, ?_⟩
 rw [hf, if_neg (by simpa using c1)]
theorem KO {N h : Int} {es : List Pr} {va : Value} {w : World} (hg : PrV w va es) (h0 : 0 ≤ h) (h1 : h < es.length * 2) (hl : es.length ≤ 1000000000) :
  Calls Tryz.prog 101 #[.agg #[.int .i64 N, va], .int .i64 h] w (Ret w [] fun r M => M = [] ∧ r = .int .i64 (toV es h)) := by
 obtain ⟨A, cap, hva, _⟩ := id hg
 subst hva
 have htw := Hg h0 h1
 refine Ao (K := []) (args := [_, _]) (L := []) Tryz.func101 rfl Tryz.ntmps101 rfl (Own.start _ _) ?_
 refine Zs ?_
 refine Zw (Ba rfl rfl rfl) fun g2 => ?_
 refine Za ?_
 refine Zx <| Zs ?_
 refine Zu (Ay (vs := [_, _]) rfl rfl Bn Bg rfl (Ak rfl)) ?_
 refine Zm ?_
 refine Zo (HE rfl rfl rfl (by omega)) ?_
 refine Seq.rel0 rfl rfl (Ar NB rfl rfl rfl (fun w hw => CW (h := tw h) (hg.keep0 hw) htw.1 htw.2)) ?_
 rintro _ rfl
 refine Za ?_
 refine Zx <| DC.ret ?_
 refine Fin.weak (E' := [(4, _)]) ⟨rfl, trivial⟩ .nil ?_
 refine Zh ?_
 refine ⟨rfl, ?_⟩
 unfold toV; rw [if_pos h0]
/-! ### degree -/
def dgF (es : List Pr) (v : Int) (j : Nat) : Nat := (List.range j).countP fun (h : Nat) => decide (fromV es (h : Int) = v)
theorem LC (es : List Pr) (v : Int) (j : Nat) : dgF es v (j + 1) = dgF es v j + if fromV es (j : Int) = v then 1 else 0 := by
 unfold dgF
 rw [List.range_succ, List.countP_append]
 by_cases h : fromV es (j : Int) = v <;> simp [h]
theorem RX (es : List Pr) (v : Int) (j : Nat) : dgF es v j ≤ j := by
 have := List.countP_le_length (p := fun (h : Nat) => decide (fromV es (h : Int) = v)) (l := List.range j)
 simpa [dgF] using this
theorem Q0 {N : Int} {es : List Pr} (hV : Vld N es) (v : Nat) : (dgF es v (es.length * 2) : Int) = cnt es v := by
 have hp : (((List.range (es.length * 2)).filter fun (h : Nat) => decide (fromV es (h : Int) = (v : Int))).map fun (h : Nat) => (h : Int)).Perm (outs es v) := by
  refine (List.perm_ext_iff_of_nodup ?_ ?_).2 fun x => ?_
  ·exact List.Pairwise.map _ (fun a b h e => h (by exact Int.ofNat.inj e)) (List.Pairwise.filter _ List.nodup_range)
  ·exact ((Dc es 0 v).1).imp (fun h => Int.ne_of_lt h)
  rw [Bl hV, List.mem_map]
  constructor
  ·rintro ⟨h, hh, rfl⟩
   rw [List.mem_filter, TN] at hh
   exact ⟨by omega, by omega, by simpa using hh.2⟩
  rintro ⟨h0, h1, h2⟩
  exact ⟨x.toNat, by rw [List.mem_filter, TN]; exact ⟨by omega, by simpa [Int.toNat_of_nonneg h0] using h2⟩, Int.toNat_of_nonneg h0⟩
 have := hp.length_eq
 rw [List.length_map] at this
 unfold dgF cnt
 rw [List.countP_eq_length_filter, this]
theorem Ep {N : Int} {v : Nat} {es : List Pr} {va : Value} {w : World} (hg : PrV w va es) (hV : Vld N es) :
  Calls Tryz.prog 65 #[.agg #[.int .i64 N, va], .int .i64 v] w (Ret w [] fun r M => M = [] ∧ r = .int .i64 (cnt es v)) := by
 have hfew := hV.few
 obtain ⟨A, cap, hva, _⟩ := id hg
 subst hva
 refine Ao (K := []) (args := [_, _]) (L := []) Tryz.func65 rfl Tryz.ntmps65 rfl (Own.start _ _) ?_
 refine Zs ?_
 refine Zw (Ba rfl rfl rfl) fun g2 => ?_
 refine Za ?_
 refine Zx <| Zs ?_
 refine Za ?_
 refine Zx <| DC.seq <| Zs ?_
 refine Za ?_
 refine Zx <| DC.block ?_
 refine DC.loop (ι := Nat) (fun j => j ≤ es.length * 2) (fun j => [(1, .int .i64 v), (2, .pointer (some ⟨g2, 0, none⟩)), (5, .int .i64 (dgF es v j : Nat)), (6, .int .i64 (j : Nat))])
  (fun _ => [blk g2 24 #[.int .i64 N, .slice A es.length cap]]) (fun j => es.length * 2 - j) 0 (Nat.zero_le _) ⟨rfl, rfl, rfl, rfl, trivial⟩ (.cons 0 rfl .nil) ?_
 intro j hj
 have hdg := RX es v j
 refine DC.seq <| Zs ?_
 refine Zm ?_
 refine Zf Be ?_
 refine Zl Bu ?_
 refine Zn TU ?_
 refine Zo (Cl rfl rfl rfl (by omega)) ?_
 refine Zc ?_
 refine Zx ?_
 refine Zd (fun c3 => ?_) fun c3 => ?_
 ·have hlt : j < es.length * 2 := by simp at c3; omega
  refine DC.skip <| Fin.then <| DC.seq <| DC.block <| Zs ?_
  refine Zu (Ay (vs := [_, _]) rfl rfl Bn Bg rfl (Ak rfl)) ?_
  refine Zm ?_
  refine Seq.rel0 rfl rfl (Ar NB rfl rfl rfl (fun w hw => CW (hg.keep0 hw) (by omega) (by omega))) ?_
  rintro _ rfl
  refine Zm ?_
  refine Zo (AN rfl rfl rfl) ?_
  refine Zx ?_
  refine Zd (fun c5 => ?_) fun c5 => ?_
  ·refine DC.region ?_
   refine Zm ?_
   refine Zp ?_
   refine Za ?_
   refine Seq.nil <| Fin.inBlock <| Fin.then <| DC.region ?_
   refine Zm ?_
   refine Zp ?_
   refine Za ?_
   refine Seq.nil ?_
   refine Ag (j + 1) (by omega) (by omega) ⟨rfl, rfl, ?_, rfl, trivial⟩ (.cons 0 rfl .nil)
   rw [LC, if_pos (by simpa using c5)]; rfl
  refine DC.skip <| Fin.inBlock <| Fin.then <| DC.region ?_
  refine Zm ?_
  refine Zp ?_
  refine Za ?_
  refine Seq.nil ?_
  refine Ag (j + 1) (by omega) (by omega) ⟨rfl, rfl, ?_, rfl, trivial⟩ (.cons 0 rfl .nil)
  rw [LC, if_neg (by simpa using c5)]; rfl
 refine DC.exit <| Ad <| Ad <| Ah <| Fin.then <| Zs ?_
 refine Zm ?_
 refine Za ?_
 refine Zx <| DC.ret ?_
 refine Fin.weak (E' := [(4, _)]) ⟨rfl, trivial⟩ .nil ?_
 refine Zh ?_
 have he : j = es.length * 2 := by simp at c3; omega
 subst he
 exact ⟨rfl, by rw [Q0 hV]⟩
theorem Eo {n : Nat} {x : Int} {l : List Int} {vl : Value} {w : World} (hl : SlV w vl l) (hn : n ≤ l.length) :
  Calls Tryz.prog 64 #[vl, .int .i64 n, .int .i64 x] w (Ret w [] fun r M => M = [] ∧ ∃ b, r = .bool b ∧ (b = true ↔ x ∈ l.take n)) := by
 obtain ⟨A, cap, rfl, hr, hlc, hcm, hle⟩ := hl
 refine Ao (K := []) (args := [_, _, _]) (L := []) Tryz.func64 rfl Tryz.ntmps64 rfl (Own.start _ _) ?_
 refine Zs ?_
 refine Za ?_
 refine Zx <| DC.seq <| Zs ?_
 refine Za ?_
 refine Zx <| DC.block ?_
 refine DC.loop (ι := Nat) (fun j => j ≤ n ∧ x ∉ l.take j) (fun j => [(0, .slice A l.length cap), (1, .int .i64 n), (2, .int .i64 x), (7, .int .i64 (j : Nat))])
  (fun _ => []) (fun j => n - j) 0 ⟨Nat.zero_le _, by simp⟩ ⟨rfl, rfl, rfl, rfl, trivial⟩ .nil ?_
 rintro j ⟨hj, hno⟩
 refine DC.seq <| Zs ?_
 iterate 2 refine Zm ?_
 refine Zc ?_
 refine Zx ?_
 refine Zd (fun c2 => ?_) fun c2 => ?_
 ·have hlt : j < n := by simpa using c2
  obtain ⟨y, hy⟩ : ∃ y, l[j]? = some y := ⟨_, Tz (by omega)⟩
  obtain ⟨ad, rfl, hc⟩ := hr.int hy
  have htk : l.take (j + 1) = l.take j ++ [y] := by rw [List.take_add_one, hy]; rfl
  refine DC.skip <| Fin.then <| DC.seq <| DC.block <| Zs ?_
  iterate 2 refine Zm ?_
  refine Zo (Aj (ad' := ad.add j) rfl rfl rfl TT AQ (by omega) (by omega) (by rw [TC])) ?_
  refine Zu (Ai rfl rfl AJ (Aw hc)) ?_
  refine Zm ?_
  refine Zo (AN rfl rfl rfl) ?_
  refine Zx ?_
  refine Zd (fun c4 => ?_) fun c4 => ?_
  ·refine Zs ?_
   refine Za ?_
   refine Zx <| DC.ret <| Ae <| Aa <| Aa <| Ae <| Aa ?_
   refine Fin.weak (E' := [(6, _)]) ⟨rfl, trivial⟩ .nil ?_
   refine Zh ?_
   have hm : (l.take n)[j]? = some x := by
    rw [List.getElem?_take, if_pos hlt, hy]
    congr 1; simpa using c4
   exact ⟨rfl, true, rfl, by simp only [true_iff]; exact TD hm⟩
  refine DC.skip <| Fin.inBlock <| Fin.then <| DC.region ?_
  refine Zm ?_
  refine Zp ?_
  refine Za ?_
  refine Seq.nil ?_
  refine Ag (j + 1) (by omega) ⟨by omega, ?_⟩ ⟨rfl, rfl, rfl, rfl, trivial⟩ .nil
  rw [htk, List.mem_append]
  rintro (h | h)
  ·exact hno h
  simp at h c4; exact c4 h.symm
 refine DC.exit <| Ad <| Ad <| Ah <| Fin.then <| Zs ?_
 refine Za ?_
 refine Zx <| DC.ret ?_
 refine Fin.weak (E' := [(6, _)]) ⟨rfl, trivial⟩ .nil ?_
 refine Zh ?_
 have hjn : j = n := by simp at c2; omega
 subst hjn
 exact ⟨rfl, false, rfl, by simp [hno]⟩
theorem Iy {N u v : Int} {es : List Pr} {va : Value} {w : World} (hg : PrV w va es) (hV : Vld N es) :
  Calls Tryz.prog 63 #[.agg #[.int .i64 N, va], .int .i64 u, .int .i64 v] w (Ret w [] fun r M => M = [] ∧ ∃ h, r = .int .i64 h ∧ ((0 ≤ h ∧ IsHalf es u v h) ∨ (h = -1 ∧ ∀ k, ¬ IsHalf es u v k))) := by
 have hfew := hV.few
 obtain ⟨A, cap, hva, _⟩ := id hg
 subst hva
 refine Ao (K := []) (args := [_, _, _]) (L := []) Tryz.func63 rfl Tryz.ntmps63 rfl (Own.start _ _) ?_
 refine Zs ?_
 refine Zw (Ba rfl rfl rfl) fun g3 => ?_
 refine Za ?_
 refine Zx <| DC.seq <| Zs ?_
 refine Za ?_
 refine Zx <| DC.block ?_
 refine DC.loop (ι := Nat) (fun j => j ≤ es.length * 2 ∧ ∀ k : Nat, k < j → ¬ IsHalf es u v k) (fun j => [(1, .int .i64 u), (2, .int .i64 v), (3, .pointer (some ⟨g3, 0, none⟩)), (7, .int .i64 (j : Nat))])
  (fun _ => [blk g3 24 #[.int .i64 N, .slice A es.length cap]]) (fun j => es.length * 2 - j) 0 ⟨Nat.zero_le _, fun k h => absurd h (TS _)⟩ ⟨rfl, rfl, rfl, rfl, trivial⟩ (.cons 0 rfl .nil) ?_
 rintro j ⟨hj, hno⟩
 refine DC.seq <| Zs ?_
 refine Zm ?_
 refine Zf Be ?_
 refine Zl Bu ?_
 refine Zn TU ?_
 refine Zo (Cl rfl rfl rfl (by omega)) ?_
 refine Zc ?_
 refine Zx ?_
 refine Zd (fun c2 => ?_) fun c2 => ?_
 ·have hlt : j < es.length * 2 := by simp at c2; omega
  have more : ¬ IsHalf es u v j → ∀ k : Nat, k < j + 1 → ¬ IsHalf es u v k := fun h k hk => by
   by_cases e : k = j
   ·subst e; exact h
   exact hno k (by omega)
  refine DC.skip <| Fin.then <| DC.seq <| DC.block <| Zs ?_
  refine Zu (Ay (vs := [_, _]) rfl rfl Bn Bg rfl (Ak rfl)) ?_
  refine Zm ?_
  refine Seq.rel0 rfl rfl (Ar NB rfl rfl rfl (fun w hw => CW (hg.keep0 hw) (by omega) (by omega))) ?_
  rintro _ rfl
  refine Zm ?_
  refine Zo (AN rfl rfl rfl) ?_
  refine Zm ?_
  refine Seq.split 21 rfl (fun k4_5 => ?_) (fun k4_5 => ?_)
  ·refine Zu (Ay (vs := [_, _]) rfl rfl Bn Bg rfl (Ak rfl)) ?_
   refine Zm ?_
   refine Seq.rel0 rfl rfl (Ar Tn rfl rfl rfl (fun w hw => KO (hg.keep0 hw) (by omega) (by omega) (by omega))) ?_
   rintro _ rfl
   refine Zm ?_
   refine Zo (AN rfl rfl rfl) ?_
   refine Zt ?_
   refine Zx ?_
   refine Zd (fun c4 => ?_) fun c4 => ?_
   ·refine Zs ?_
    refine Zm ?_
    refine Za ?_
    refine Zx <| DC.ret <| Ae <| Aa <| Aa <| Ae <| Aa ?_
    refine Fin.weak (E' := [(6, _)]) ⟨rfl, trivial⟩ .nil ?_
    refine Zh ?_
    exact ⟨rfl, j, rfl, .inl ⟨by omega, by omega, by omega, by simpa using k4_5, by simpa using c4⟩⟩
   refine DC.skip <| Fin.inBlock <| Fin.then <| DC.region ?_
   refine Zm ?_
   refine Zp ?_
   refine Za ?_
   refine Seq.nil ?_
   refine Ag (j + 1) (by omega) ⟨by omega, more fun h => ?_⟩ ⟨rfl, rfl, rfl, rfl, trivial⟩ (.cons 0 rfl .nil)
   have hf := h.fr
   have ht := h.to
   first
   | (simp at c4; exact c4 ht)
   | (simp at k4_5; exact k4_5 hf)
  iterate 5 refine Zk ?_
  refine Zg ?_
  refine Zx ?_
  refine AT rfl ?_
  refine DC.skip <| Fin.inBlock <| Fin.then <| DC.region ?_
  refine Zm ?_
  refine Zp ?_
  refine Za ?_
  refine Seq.nil ?_
  refine Ag (j + 1) (by omega) ⟨by omega, more fun h => ?_⟩ ⟨rfl, rfl, rfl, rfl, trivial⟩ (.cons 0 rfl .nil)
  have hf := h.fr
  have ht := h.to
  first
  | (simp at c4; exact c4 ht)
  | (simp at k4_5; exact k4_5 hf)
 refine DC.exit <| Ad <| Ad <| Ah <| Fin.then <| Zs ?_
 refine Za ?_
 refine Zx <| DC.ret ?_
 refine Fin.weak (E' := [(6, _)]) ⟨rfl, trivial⟩ .nil ?_
 refine Zh ?_
 have he : j = es.length * 2 := by simp at c2; omega
 subst he
 refine ⟨rfl, -1, rfl, .inr ⟨rfl, fun k hk => ?_⟩⟩
 have h0 := hk.lo; have h1 := hk.hi
 refine hno k.toNat (by omega) ?_
 rw [Int.toNat_of_nonneg h0]; exact hk
structure RoI where
 v : Nat
 p : Value
 rs : RL
structure RoJ where
 i : Nat
 p : Value
 hs : List Int
/-- The first i neighbours of v have these half-edges. -/
structure RoR (es : List Pr) (v : Nat) (l hs : List Int) (i : Nat) : Prop where
 len : hs.length = i
 half : ∀ (j : Nat) u h, l[j]? = some u → hs[j]? = some h → IsHalf es v u h
 nd : (l.take i).Nodup
 ex : ∀ u, u ∈ l.take i → ∃ h, IsHalf es v u h
structure RoD (es : List Pr) (ls : List (List Int)) (rs : RL) (v : Nat) : Prop where
 len : rs.length = v
 ok : ∀ (x : Nat) l, x < v → ls[x]? = some l → (∀ u, u ∈ l → ∃ h, IsHalf es x u h) ∧ l.Nodup ∧ (l.length : Int) = cnt es x
 row : ∀ (x : Nat) l (r : Value × List Int), ls[x]? = some l → rs[x]? = some r → r.2.length = l.length ∧ ∀ (j : Nat) u h, l[j]? = some u → r.2[j]? = some h → IsHalf es x u h
theorem Gl : ∀ {a b : List Int}, a.Nodup → (∀ x, x ∈ a → x ∈ b) → a.length ≤ b.length
 | [], b, _, _ => Nat.zero_le _
 | x :: r, b, hn, h => by
  rw [List.nodup_cons] at hn
  have hx := h x (TI ..)
  have := Gl (b := b.erase x) hn.2 (fun y hy => (List.mem_erase_of_ne (fun e => hn.1 (by rw [← e]; exact hy))).2 (h y (TM _ hy)))
  rw [List.length_erase_of_mem hx] at this
  have := List.length_pos_of_mem hx
  simp; omega
theorem FJ {l : List Int} (h : l.Nodup) {i j : Nat} {x : Int} (hi : l[i]? = some x) (hj : l[j]? = some x) : i = j := by
 obtain ⟨h1, e1⟩ := TA.1 hi
 obtain ⟨h2, e2⟩ := TA.1 hj
 rcases Nat.lt_trichotomy i j with h3 | h3 | h3
 ·exact absurd (e1.trans e2.symm) (List.pairwise_iff_getElem.1 h i j h1 h2 h3)
 ·exact h3
 exact absurd (e2.trans e1.symm) (List.pairwise_iff_getElem.1 h j i h2 h1 h3)
theorem Mt {N : Int} {es : List Pr} {v : Nat} {l hs : List Int} (hV : Vld N es) (h : RoR es v l hs l.length) : (hs.length : Int) ≤ cnt es v := by
 have hlen := h.len
 have hnl := h.nd
 rw [List.take_length] at hnl
 have hnd : hs.Nodup := by
  refine List.pairwise_iff_getElem.2 fun i j hi hj hij heq => ?_
  obtain ⟨u, hu⟩ : ∃ u, l[i]? = some u := ⟨_, Tz (by omega)⟩
  obtain ⟨u', hu'⟩ : ∃ u, l[j]? = some u := ⟨_, Tz (by omega)⟩
  have h1 := h.half i u hs[i] hu (Tz hi)
  have h2 := h.half j u' hs[i] hu' (by rw [heq]; exact Tz hj)
  have e : u = u' := by have := h1.to; have := h2.to; omega
  subst e
  have := FJ hnl hu hu'
  omega
 have := Gl hnd (b := outs es v) (fun x hx => by
  obtain ⟨i, hi⟩ := TF.1 hx
  obtain ⟨u, hu⟩ : ∃ u, l[i]? = some u := ⟨_, Tz (by have := (TA.1 hi).1; omega)⟩
  have := h.half i u x hu hi
  exact (Bl hV).2 ⟨this.lo, this.hi, this.fr⟩)
 unfold cnt; omega
theorem KQ {N : Int} {es : List Pr} {ls : List (List Int)} {va v : Value} {w : World} (hg : PrV w va es) (hl : LsV w v ls) (hs : ∀ l, l ∈ ls → l.length ≤ 1000000000) :
  Calls Tryz.prog 32 #[.agg #[.int .i64 N, va], v] w (Ret w [] fun r M =>
   (RotOk N es ls ∧ ∃ v rs, r = .tuple #[v, .int .i64 0, .int .i64 0] ∧ M = slc v 44 1 (rowsV rs) :: rowsC 3 rs ∧ RotR es ls (rs.map Prod.snd)) ∨
   (¬ RotOk N es ls ∧ ∃ x e, r = .tuple #[.slice none 0 0, .int .i64 x, .int .i64 e] ∧ e ≠ 0)) := by
 obtain ⟨A, cap, hva, _⟩ := id hg
 subst hva
 have hl0 := hl
 obtain ⟨B, capb, rfl, hrb, hlb, hcb, hleb⟩ := hl
 refine Ao (K := []) (args := [_, _]) (L := []) Tryz.func32 rfl Tryz.ntmps32 rfl (Own.start _ _) ?_
 refine Zs ?_
 refine Zw (Ba rfl rfl rfl) fun g2 => ?_
 iterate 3 refine Za ?_
 refine Zx <| DC.seq <| Zs ?_
 refine Zu (Ay (vs := [_, _]) rfl rfl Bn Bg rfl (Ak rfl)) ?_
 refine Seq.rel0 rfl rfl (Ar MC rfl rfl rfl (fun w hw => B2 (hg.keep0 hw))) ?_
 rintro _ ⟨bv, rfl, hbv⟩
 refine Zo (Bd rfl rfl) ?_
 refine Zx ?_
 refine Zd (fun c1 => ?_) fun c1 => ?_
 ·refine Zs ?_
  iterate 3 refine Za ?_
  refine Zx <| DC.ret <| Aa ?_
  refine Fin.weak (E' := [(4, _), (5, _), (6, _)]) ⟨rfl, rfl, rfl, trivial⟩ .nil ?_
  refine Bo (.inl rfl) rfl rfl rfl rfl ?_
  exact .inr ⟨fun h => by rw [hbv.2 h.1] at c1; simp at c1, 0, 1, rfl, by decide⟩
 refine DC.skip <| Fin.then <| DC.seq <| Zs ?_
 refine Zm ?_
 refine Zn TW ?_
 refine Zf BI ?_
 refine Zl AJ ?_
 refine Zo (BK rfl rfl rfl) ?_
 refine Zx ?_
 refine Zd (fun c3 => ?_) fun c3 => ?_
 ·refine Zs ?_
  iterate 3 refine Za ?_
  refine Zx <| DC.ret <| Aa ?_
  refine Fin.weak (E' := [(4, _), (5, _), (6, _)]) ⟨rfl, rfl, rfl, trivial⟩ .nil ?_
  refine Bo (.inl rfl) rfl rfl rfl rfl ?_
  exact .inr ⟨fun h => by have := h.2.1; simp at c3; exact c3 this, 0, 110, rfl, by decide⟩
 refine DC.skip <| Fin.then <| DC.seq ?_
 have hV : Vld N es := hbv.1 (by simpa using c1)
 have hN : (ls.length : Int) = N := by simpa using c3
 subst hN
 have hNm := hV.hi
 have hfew := hV.few
 refine DC.region ?_
 refine Za ?_
 refine Zx <| DC.seq <| Zs ?_
 refine Za ?_
 refine Zx <| DC.block ?_
 refine DC.own (fun w hw => AX (t := 44) (m := 1) hw) ?_
 refine DC.loop (ι := RoI) (fun j => j.v ≤ ls.length ∧ RoD es ls j.rs j.v) (fun j => [(1, .slice B ls.length capb), (2, .pointer (some ⟨g2, 0, none⟩)), (7, j.p), (8, .int .i64 (j.v : Nat))])
  (fun j => slc j.p 44 1 (rowsV j.rs) :: blk g2 24 #[.int .i64 ls.length, .slice A es.length cap] :: rowsC 3 j.rs) (fun j => ls.length - j.v) ⟨0, .slice none 0 0, []⟩ ⟨Nat.zero_le _, rfl, fun x l hx => absurd hx (TS _), fun x l r _ h => by simp at h⟩ ⟨rfl, rfl, rfl, rfl, trivial⟩ (.cons 0 rfl (.cons 0 rfl .nil)) ?_
 rintro ⟨x, p, rs⟩ ⟨hx, hD⟩
 dsimp only at hx hD ⊢
 refine DC.seq <| Zs ?_
 refine Zm ?_
 refine Zf BI ?_
 refine Zl AJ ?_
 refine Zc ?_
 refine Zx ?_
 refine Zd (fun c7 => ?_) fun c7 => ?_
 ·have hxl : x < ls.length := by simpa using c7
  obtain ⟨l, hlx⟩ : ∃ l, ls[x]? = some l := ⟨_, Tz hxl⟩
  obtain ⟨ad, lv, rfl, hlc, hSl⟩ := hrb x l hlx
  have hll := hs l (TD hlx)
  have hSl0 := hSl
  obtain ⟨A2, cap2, rfl, hr2, _, _, _⟩ := hSl
  refine DC.skip <| Fin.then <| DC.seq <| DC.block <| Zs ?_
  refine Za ?_
  refine Zx <| DC.seq <| Zs ?_
  refine Za ?_
  refine Zx <| DC.block ?_
  refine DC.own (fun w hw => AX (t := 3) (m := 1) hw) ?_
  refine DC.loop (ι := RoJ) (fun j => j.i ≤ l.length ∧ RoR es x l j.hs j.i) (fun j => [(1, .slice (some ad) ls.length capb), (2, .pointer (some ⟨g2, 0, none⟩)), (7, p), (8, .int .i64 (x : Nat)), (9, j.p), (10, .int .i64 (j.i : Nat))])
   (fun j => slc j.p 3 1 (ints j.hs) :: slc p 44 1 (rowsV rs) :: blk g2 24 #[.int .i64 ls.length, .slice A es.length cap] :: rowsC 3 rs) (fun j => l.length - j.i) ⟨0, .slice none 0 0, []⟩ ⟨Nat.zero_le _, rfl, fun j u h _ hh => by simp at hh, by simp, by simp⟩ ⟨rfl, rfl, rfl, rfl, rfl, rfl, trivial⟩ (.cons 0 rfl (.cons 0 rfl (.cons 0 rfl (Pick.all _)))) ?_
  rintro ⟨i, q, hs'⟩ ⟨hi, hR⟩
  dsimp only at hi hR ⊢
  refine DC.seq <| Zs ?_
  iterate 3 refine Zm ?_
  refine Zo (Aj (ad' := ad.add x) rfl rfl rfl TW BE (by omega) (by omega) (by rw [TC])) ?_
  refine Zu (Ai rfl rfl BA (Aw hlc)) ?_
  refine Zn TT ?_
  refine Zc ?_
  refine Zx ?_
  refine Zd (fun c11 => ?_) fun c11 => ?_
  ·have hil : i < l.length := by simpa using c11
   obtain ⟨u, hu⟩ : ∃ u, l[i]? = some u := ⟨_, Tz hil⟩
   obtain ⟨ad2, rfl, hcu⟩ := hr2.int hu
   have htk : l.take (i + 1) = l.take i ++ [u] := by rw [List.take_add_one, hu]; rfl
   refine DC.skip <| Fin.then <| DC.seq <| DC.block <| DC.seq ?_
   refine AF (cl := [.v, .q, .q, .q, .q, .v, .q, .q, .v, .r, .q]) (A := [0, 0, 0, 0, 12, 28, 0, 124, 252, 511, 1023]) (order := [0, 1, 2, 3, 4, 5, 6, 7, 8, 9, 10]) [] mixed (by kernel_rfl) (fun w hw => hw.pick .nil) ?_
   refine Am rfl rfl rfl rfl (Ay (vs := [_, _]) rfl rfl Bn Bg rfl (Ak rfl)) ?_
   iterate 3 refine Ym ?_
   refine Yo rfl (Aj (ad' := ad.add x) rfl rfl rfl TW BE (by omega) (by omega) (by rw [TC])) ?_
   refine Am rfl rfl rfl rfl (Ai rfl rfl BA (Aw hlc)) ?_
   refine Ym ?_
   refine Yo rfl (Aj (ad' := ad2.add i) rfl rfl rfl TT AQ (by omega) (by omega) (by rw [TC])) ?_
   refine Am rfl rfl rfl rfl (Ai rfl rfl AJ (Aw hcu)) ?_
   refine Flow.rel0 rfl rfl rfl rfl (Ar en63 rfl rfl rfl (fun w hw => Iy (hg.keep0 hw) hV)) ?_
   rintro _ ⟨h, rfl, hh⟩
   refine Yo rfl (AR rfl rfl) ?_
   refine Flow.end rfl ?_
   simp only [zq, zr]
   refine Fin.then <| DC.seq <| Zs ?_
   refine Zm ?_
   refine Zc ?_
   refine Zx ?_
   refine Zd (fun c14 => ?_) fun c14 => ?_
   ·refine Zs ?_
    refine Zm ?_
    iterate 3 refine Za ?_
    refine Zx <| DC.ret <| Aa <| Ae <| Aa <| Aa <| Ae <| Aa <| Ae <| Aa <| Aa <| Ae <| Aa ?_
    refine Fin.weak (E' := [(4, _), (5, _), (6, _)]) ⟨rfl, rfl, rfl, trivial⟩ .nil ?_
    refine Bo (.inl rfl) rfl rfl rfl rfl ?_
    refine .inr ⟨fun ho => ?_, x, 111, rfl, by decide⟩
    obtain ⟨k, hk⟩ := (ho.2.2 x l hlx).1 u (TD hu)
    rcases hh with ⟨h0, _⟩ | ⟨_, h1⟩
    ·simp at c14; omega
    exact h1 k hk
   have hIs : IsHalf es x u h := by
    rcases hh with ⟨_, h1⟩ | ⟨h0, _⟩
    ·exact h1
    simp at c14; omega
   refine DC.skip <| Fin.then <| DC.seq <| DC.seq ?_
   refine AF (cl := [.q, .q, .q, .v, .q, .q, .q, .q, .v, .q, .q, .v, .r]) (A := [0, 0, 3, 7, 0, 0, 0, 96, 224, 0, 992, 2016, 4095]) (order := [0, 1, 2, 3, 4, 5, 6, 7, 8, 9, 10, 11, 12]) [] mixed (by kernel_rfl) (fun w hw => hw.pick .nil) ?_
   iterate 2 refine Ym ?_
   refine Yo rfl (Aj (ad' := ad.add x) rfl rfl rfl TW BE (by omega) (by omega) (by rw [TC])) ?_
   refine Am rfl rfl rfl rfl (Ai rfl rfl BA (Aw hlc)) ?_
   iterate 3 refine Ym ?_
   refine Yo rfl (Aj (ad' := ad.add x) rfl rfl rfl TW BE (by omega) (by omega) (by rw [TC])) ?_
   refine Am rfl rfl rfl rfl (Ai rfl rfl BA (Aw hlc)) ?_
   refine Ym ?_
   refine Yo rfl (Aj (ad' := ad2.add i) rfl rfl rfl TT AQ (by omega) (by omega) (by rw [TC])) ?_
   refine Am rfl rfl rfl rfl (Ai rfl rfl AJ (Aw hcu)) ?_
   refine Flow.rel0 rfl rfl rfl rfl (Ar SC rfl rfl rfl (fun w hw => Eo (hSl0.keep0 hw) (by omega))) ?_
   rintro _ ⟨bs, rfl, hbs⟩
   refine Flow.end rfl ?_
   simp only [zq, zr]
   refine Fin.then ?_
   refine Zd (fun c16 => ?_) fun c16 => ?_
   ·refine Zs ?_
    refine Zm ?_
    iterate 3 refine Za ?_
    refine Zx <| DC.ret <| Aa <| Ae <| Aa <| Aa <| Ae <| Aa <| Ae <| Aa <| Aa <| Ae <| Aa ?_
    refine Fin.weak (E' := [(4, _), (5, _), (6, _)]) ⟨rfl, rfl, rfl, trivial⟩ .nil ?_
    refine Bo (.inl rfl) rfl rfl rfl rfl ?_
    refine .inr ⟨fun ho => ?_, x, 112, rfl, by decide⟩
    have hnd := (ho.2.2 x l hlx).2.1
    have hm : u ∈ l.take i := hbs.1 c16
    obtain ⟨k, hk⟩ := TF.1 hm
    rw [List.getElem?_take] at hk
    split at hk
    ·have := FJ hnd hk hu; omega
    cases hk
   have hnot : u ∉ l.take i := fun hm => by rw [hbs.2 hm] at c16; cases c16
   refine DC.skip <| Fin.then <| DC.region ?_
   iterate 2 refine Zm ?_
   refine Zw (AP (cs := #[_]) rfl rfl TT AQ B0 rfl (by decide) (by decide) rfl rfl) fun g64 => ?_
   refine Seq.gen rfl rfl (Gen.shape (AK (F := blk g64 3 #[.int .i64 h] :: slc p 44 1 (rowsV rs) :: blk g2 24 #[.int .i64 ls.length, .slice A es.length cap] :: rowsC 3 rs) (vs := ints hs') (k := 1) (news := [.int .i64 h]) rfl rfl rfl TT AQ DE B0 rfl (by decide) (by decide)
    (fun w hw => hw.pick (.cons 1 rfl (.cons 0 rfl (Pick.all _)))) (.inl ⟨_, _, rfl, Ak rfl⟩) rfl (by intro u hu; simp at hu; subst hu; rfl) (by rw [ints_length, hR.len]; omega))) ?_
   rintro _ _ ⟨⟨A11, l11, c11', rfl⟩, rfl⟩
   refine Za ?_
   refine Seq.nil <| Fin.inBlock <| Fin.then <| DC.region ?_
   refine Zm ?_
   refine Zp ?_
   refine Za ?_
   refine Seq.nil ?_
   refine Fin.own (fun w hw => hw.sub (.cons_cons _ (.cons _ (List.Sublist.refl _)))) ?_
   refine Ag ⟨i + 1, .slice A11 l11 c11', hs' ++ [h]⟩ (by dsimp only; omega) ⟨by dsimp only; omega, ?_⟩ ⟨rfl, rfl, rfl, rfl, rfl, rfl, trivial⟩ (.cons' 0 rfl (by rw [AU]; rfl) (.cons 0 rfl (.cons 0 rfl (Pick.all _))))
   refine ⟨by simp [hR.len], fun j u' h' hu' hh' => ?_, ?_, fun u' hu' => ?_⟩
   ·dsimp only at hh'
    rw [List.getElem?_append] at hh'
    split at hh'
    ·exact hR.half j u' h' hu' hh'
    rename_i hji
    have hji2 : j = i := by
     have h1 := (TA.1 hh').1
     have h2 := hR.len
     simp at h1; omega
    subst hji2
    rw [hu] at hu'; cases hu'
    rw [hR.len, Nat.sub_self] at hh'
    cases hh'; exact hIs
   ·dsimp only
    rw [htk, List.nodup_append]
    refine ⟨hR.nd, by simp, fun a ha b hb e => ?_⟩
    simp at hb; subst hb; subst e
    exact hnot ha
   dsimp only at hu'
   rw [htk, List.mem_append] at hu'
   rcases hu' with hu' | hu'
   ·exact hR.ex u' hu'
   simp at hu'; subst hu'; exact ⟨h, hIs⟩
  refine DC.exit <| Ad <| Ad <| Ah <| Fin.then <| DC.seq <| DC.seq ?_
  have hil : i = l.length := by simp at c11; omega
  subst hil
  have hqs := Mt hV hR
  refine DT 0 rfl (by have := hR.len; omega) ?_
  rintro ⟨Aq, cq, rfl⟩
  refine DC.region ?_
  refine Zm ?_
  refine Zn TT ?_
  refine Zu (Ay (vs := [_, _]) rfl rfl Bn Bg rfl (Ak rfl)) ?_
  refine Zm ?_
  refine Seq.rel0 rfl rfl (Ar SB rfl rfl rfl (fun w hw => Ep (hg.keep0 hw) hV)) ?_
  rintro _ rfl
  refine Zc ?_
  refine Zx ?_
  refine Zd (fun c19 => ?_) fun c19 => ?_
  ·refine Zs ?_
   refine Zm ?_
   iterate 3 refine Za ?_
   refine Zx <| DC.ret <| Aa <| Ae <| Aa <| Aa <| Ae <| Aa ?_
   refine Fin.weak (E' := [(4, _), (5, _), (6, _)]) ⟨rfl, rfl, rfl, trivial⟩ .nil ?_
   refine Bo (.inl rfl) rfl rfl rfl rfl ?_
   refine .inr ⟨fun ho => ?_, x, 113, rfl, by decide⟩
   have := (ho.2.2 x l hlx).2.2
   have h2 := hR.len
   simp at c19; omega
  have hcnt : (l.length : Int) = cnt es x := by
   have h2 := hR.len
   simp at c19; omega
  have hpl : rs.length ≤ 1048576 := by have := hD.len; omega
  refine DC.skip <| Fin.then <| DC.region ?_
  iterate 2 refine Zm ?_
  refine Zw (AP (cs := #[_]) rfl rfl TY BE Da rfl (by decide) (by decide) rfl rfl) fun g75 => ?_
  refine Seq.gen rfl rfl (Gen.shape (AK (F := blk g75 44 #[.slice Aq hs'.length cq] :: slc (.slice Aq hs'.length cq) 3 1 (ints hs') :: blk g2 24 #[.int .i64 ls.length, .slice A es.length cap] :: rowsC 3 rs) (vs := rowsV rs) (k := 1) (news := [.slice Aq hs'.length cq]) rfl rfl rfl TY BE IH Da rfl (by decide) (by decide)
   (fun w hw => hw.pick (.cons 2 rfl (.cons 0 rfl (.cons 0 rfl (Pick.all _))))) (.inl ⟨_, _, rfl, Ak rfl⟩) rfl (by intro u hu; simp at hu; subst hu; rfl) (by rw [rowsV_length]; omega))) ?_
  rintro _ _ ⟨⟨A12, l12, c12, rfl⟩, rfl⟩
  refine Za ?_
  refine Seq.nil <| Fin.inBlock <| Fin.then <| DC.region ?_
  refine Zm ?_
  refine Zp ?_
  refine Za ?_
  refine Seq.nil ?_
  refine Fin.own (M := slc (.slice A12 l12 c12) 44 1 (rowsV (rs ++ [(.slice Aq hs'.length cq, hs')])) :: blk g2 24 #[.int .i64 ls.length, .slice A es.length cap] :: rowsC 3 (rs ++ [(.slice Aq hs'.length cq, hs')])) (fun w hw => ?_) ?_
  ·have h1 := hw.sub (.cons_cons _ (.cons _ (List.Sublist.refl _)))
   have h2 := h1.perm (L' := slc (.slice A12 l12 c12) 44 1 (rowsV rs ++ [.slice Aq hs'.length cq]) :: blk g2 24 #[.int .i64 ls.length, .slice A es.length cap] :: (rowsC 3 rs ++ [slc (.slice Aq hs'.length cq) 3 1 (ints hs')])) (.cons _ (List.perm_append_singleton _ (blk g2 24 #[.int .i64 ls.length, .slice A es.length cap] :: rowsC 3 rs)))
   simpa [rowsV, rowsC] using h2
  refine Ag ⟨x + 1, .slice A12 l12 c12, rs ++ [(.slice Aq hs'.length cq, hs')]⟩ (by dsimp only; omega) ⟨by dsimp only; omega, ?_⟩ ⟨rfl, rfl, rfl, rfl, trivial⟩ (Pick.all _)
  have hnl := hR.nd
  have hex := hR.ex
  rw [List.take_length] at hnl hex
  refine ⟨by simp [hD.len], fun y l' hy hl' => ?_, fun y l' r hl' hr' => ?_⟩
  ·dsimp only at hy
   rcases TE.1 hy with hy | rfl
   ·exact hD.ok y l' hy hl'
   rw [hlx] at hl'; cases hl'
   exact ⟨hex, hnl, hcnt⟩
  rw [List.getElem?_append] at hr'
  split at hr'
  ·exact hD.row y l' r hl' hr'
  rename_i hyl
  have hyx : y = x := by
   have h1 := (TA.1 hr').1
   have h2 := hD.len
   simp at h1; omega
  subst hyx
  rw [hlx] at hl'; cases hl'
  rw [hD.len, Nat.sub_self] at hr'
  cases hr'
  exact ⟨hR.len, hR.half⟩
 refine DC.exit <| Ad <| Ad <| Ah <| Fin.then <| Zs ?_
 refine Zm ?_
 iterate 3 refine Za ?_
 refine Zx <| DC.ret ?_
 refine Fin.weak (E' := [(4, _), (5, _), (6, _)]) ⟨rfl, rfl, rfl, trivial⟩ (Pick.all _) ?_
 refine Fin.own (fun w hw => hw.sub (.cons_cons _ (.cons _ (List.Sublist.refl _)))) ?_
 refine Bo (.inl rfl) rfl rfl rfl rfl ?_
 have hxe : x = ls.length := by simp at c7; omega
 subst hxe
 refine .inl ⟨⟨hV, rfl, fun y l hl => hD.ok y l (TA.1 hl).1 hl⟩, _, rs, rfl, rfl, by simp [hD.len], fun y l r hl hr => ?_⟩
 rw [List.getElem?_map, Option.map_eq_some_iff] at hr
 obtain ⟨p', hp', rfl⟩ := hr
 exact hD.row y l p' hl hp'
theorem GQ {N h : Int} {v : Nat} {es : List Pr} {va : Value} {w : World} (hg : PrV w va es) (hl : es.length ≤ 1000000000) :
  Calls Tryz.prog 189 #[.agg #[.int .i64 N, va], .int .i64 h, .int .i64 v] w (Ret w [] fun r M => M = [] ∧ ∃ b, r = .bool b ∧ (b = true ↔ 0 ≤ h ∧ h < es.length * 2 ∧ fromV es h = v)) := by
 obtain ⟨A, cap, hva, _⟩ := id hg
 subst hva
 refine Ao (K := []) (args := [_, _, _]) (L := []) Tryz.func189 rfl Tryz.ntmps189 rfl (Own.start _ _) ?_
 refine Zs ?_
 refine Zw (Ba rfl rfl rfl) fun g3 => ?_
 refine Za ?_
 refine Zx <| Zs ?_
 refine Zm ?_
 refine Zo (Cc rfl rfl rfl) ?_
 refine Zm ?_
 refine Seq.split 9 rfl (fun k1_2 => ?_) (fun k1_2 => ?_)
 ·refine Zm ?_
  refine Zf Be ?_
  refine Zl Bu ?_
  refine Zn TU ?_
  refine Zo (Cl rfl rfl rfl (by omega)) ?_
  refine Zc ?_
  refine Zt ?_
  refine Zm ?_
  refine Seq.split 17 rfl (fun k1_10 => ?_) (fun k1_10 => ?_)
  ·refine Zu (Ay (vs := [_, _]) rfl rfl Bn Bg rfl (Ak rfl)) ?_
   refine Zm ?_
   refine Seq.rel0 rfl rfl (Ar NB rfl rfl rfl (fun w hw => CW (hg.keep0 hw) (by simp at k1_2; omega) (by simp at k1_10; omega))) ?_
   rintro _ rfl
   refine Zm ?_
   refine Zo (AN rfl rfl rfl) ?_
   refine Zt ?_
   refine Za ?_
   refine Zx <| DC.ret ?_
   refine Fin.weak (E' := [(6, _)]) ⟨rfl, trivial⟩ .nil ?_
   refine Zh ?_
   refine ⟨rfl, _, rfl, ?_⟩
   first
   | (simp at k1_2 k1_10 ⊢; omega)
   | (simp at k1_2 ⊢; omega)
  iterate 5 refine Zk ?_
  refine Zg ?_
  refine Za ?_
  refine Zx <| DC.ret ?_
  refine Fin.weak (E' := [(6, _)]) ⟨rfl, trivial⟩ .nil ?_
  refine Zh ?_
  refine ⟨rfl, _, rfl, ?_⟩
  first
  | (simp at k1_2 k1_10 ⊢; omega)
  | (simp at k1_2 ⊢; omega)
 iterate 6 refine Zk ?_
 refine Zg ?_
 refine Zm ?_
 iterate 5 refine Zk ?_
 refine Zg ?_
 refine Za ?_
 refine Zx <| DC.ret ?_
 refine Fin.weak (E' := [(6, _)]) ⟨rfl, trivial⟩ .nil ?_
 refine Zh ?_
 refine ⟨rfl, _, rfl, ?_⟩
 first
 | (simp at k1_2 k1_10 ⊢; omega)
 | (simp at k1_2 ⊢; omega)
theorem Hz {N : Int} {es : List Pr} {rs : List (List Int)} {va v : Value} {w : World} (hg : PrV w va es) (hl : LsV w v rs) (hs : ∀ l, l ∈ rs → l.length ≤ 1000000000) :
  Calls Tryz.prog 173 #[.agg #[.int .i64 N, va], v] w (Ret w [] fun r M => M = [] ∧ ∃ x e, r = .tuple #[.int .i64 x, .int .i64 e] ∧ (e = 0 ↔ RotL N es rs)) := by
 obtain ⟨A, cap, hva, _⟩ := id hg
 subst hva
 obtain ⟨B, capb, rfl, hrb, hlb, hcb, hleb⟩ := hl
 refine Ao (K := []) (args := [_, _]) (L := []) Tryz.func173 rfl Tryz.ntmps173 rfl (Own.start _ _) ?_
 refine Zs ?_
 refine Zw (Ba rfl rfl rfl) fun g2 => ?_
 iterate 2 refine Za ?_
 refine Zx <| DC.seq <| Zs ?_
 refine Zu (Ay (vs := [_, _]) rfl rfl Bn Bg rfl (Ak rfl)) ?_
 refine Seq.rel0 rfl rfl (Ar MC rfl rfl rfl (fun w hw => B2 (hg.keep0 hw))) ?_
 rintro _ ⟨bv, rfl, hbv⟩
 refine Zo (Bd rfl rfl) ?_
 refine Zx ?_
 refine Zd (fun c1 => ?_) fun c1 => ?_
 ·refine Zs ?_
  iterate 2 refine Za ?_
  refine Zx <| DC.ret <| Aa ?_
  refine Fin.weak (E' := [(4, _), (5, _)]) ⟨rfl, rfl, trivial⟩ .nil ?_
  refine AL (.inl rfl) rfl rfl rfl ?_
  exact ⟨rfl, 0, 1, rfl, by simp; intro h; rw [hbv.2 h.1] at c1; simp at c1⟩
 refine DC.skip <| Fin.then <| DC.seq <| Zs ?_
 refine Zm ?_
 refine Zn TY ?_
 refine Zf BI ?_
 refine Zl AJ ?_
 refine Zo (BK rfl rfl rfl) ?_
 refine Zx ?_
 refine Zd (fun c3 => ?_) fun c3 => ?_
 ·refine Zs ?_
  iterate 2 refine Za ?_
  refine Zx <| DC.ret <| Aa ?_
  refine Fin.weak (E' := [(4, _), (5, _)]) ⟨rfl, rfl, trivial⟩ .nil ?_
  refine AL (.inl rfl) rfl rfl rfl ?_
  exact ⟨rfl, 0, 110, rfl, by simp; intro h; have := h.2.1; simp at c3; exact c3 this⟩
 refine DC.skip <| Fin.then <| DC.seq <| DC.seq ?_
 have hV : Vld N es := hbv.1 (by simpa using c1)
 have hN : (rs.length : Int) = N := by simpa using c3
 subst hN
 have hNm := hV.hi
 have hfew := hV.few
 refine DC.region ?_
 refine Za ?_
 refine Zx <| DC.block ?_
 refine DC.loop (ι := Nat) (fun x => x ≤ rs.length ∧ ∀ (y : Nat) l, y < x → rs[y]? = some l → (∀ h, h ∈ l → 0 ≤ h ∧ h < es.length * 2 ∧ fromV es h = y) ∧ l.Nodup ∧ (l.length : Int) = cnt es y) (fun x => [(1, .slice B rs.length capb), (2, .pointer (some ⟨g2, 0, none⟩)), (6, .int .i64 (x : Nat))])
  (fun _ => [blk g2 24 #[.int .i64 rs.length, .slice A es.length cap]]) (fun x => rs.length - x) 0 ⟨Nat.zero_le _, fun y l hy => absurd hy (TS _)⟩ ⟨rfl, rfl, rfl, trivial⟩ (.cons 0 rfl .nil) ?_
 rintro x ⟨hx, hD⟩
 refine DC.seq <| Zs ?_
 refine Zm ?_
 refine Zf BI ?_
 refine Zl AJ ?_
 refine Zc ?_
 refine Zx ?_
 refine Zd (fun c6 => ?_) fun c6 => ?_
 ·have hxl : x < rs.length := by simpa using c6
  obtain ⟨l, hlx⟩ : ∃ l, rs[x]? = some l := ⟨_, Tz hxl⟩
  obtain ⟨ad, lv, rfl, hlc, hSl⟩ := hrb x l hlx
  have hll := hs l (TD hlx)
  have hSl0 := hSl
  obtain ⟨A2, cap2, rfl, hr2, _, _, _⟩ := hSl
  refine DC.skip <| Fin.then <| DC.seq <| DC.block <| DC.seq <| Zs ?_
  refine Za ?_
  refine Zx <| DC.block ?_
  refine DC.loop (ι := Nat) (fun i => i ≤ l.length ∧ (∀ h, h ∈ l.take i → 0 ≤ h ∧ h < es.length * 2 ∧ fromV es h = x) ∧ (l.take i).Nodup) (fun i => [(1, .slice (some ad) rs.length capb), (2, .pointer (some ⟨g2, 0, none⟩)), (6, .int .i64 (x : Nat)), (7, .int .i64 (i : Nat))])
   (fun _ => [blk g2 24 #[.int .i64 rs.length, .slice A es.length cap]]) (fun i => l.length - i) 0 ⟨Nat.zero_le _, by simp, by simp⟩ ⟨rfl, rfl, rfl, rfl, trivial⟩ (.cons 0 rfl .nil) ?_
  rintro i ⟨hi, hfr, hnd⟩
  refine DC.seq <| Zs ?_
  iterate 3 refine Zm ?_
  refine Zo (Aj (ad' := ad.add x) rfl rfl rfl TY BE (by omega) (by omega) (by rw [TC])) ?_
  refine Zu (Ai rfl rfl BA (Aw hlc)) ?_
  refine Zn TT ?_
  refine Zc ?_
  refine Zx ?_
  refine Zd (fun c9 => ?_) fun c9 => ?_
  ·have hil : i < l.length := by simpa using c9
   obtain ⟨u, hu⟩ : ∃ u, l[i]? = some u := ⟨_, Tz hil⟩
   obtain ⟨ad2, rfl, hcu⟩ := hr2.int hu
   have htk : l.take (i + 1) = l.take i ++ [u] := by rw [List.take_add_one, hu]; rfl
   refine DC.skip <| Fin.then <| DC.seq <| DC.block <| DC.seq <| DC.seq ?_
   refine AF (cl := [.v, .q, .q, .q, .v, .q, .q, .v, .q, .r, .q]) (A := [0, 0, 0, 6, 14, 0, 62, 126, 0, 511, 1023]) (order := [0, 1, 2, 3, 4, 5, 6, 7, 8, 9, 10]) [] mixed (by kernel_rfl) (fun w hw => hw.pick .nil) ?_
   refine Am rfl rfl rfl rfl (Ay (vs := [_, _]) rfl rfl Bn Bg rfl (Ak rfl)) ?_
   iterate 2 refine Ym ?_
   refine Yo rfl (Aj (ad' := ad.add x) rfl rfl rfl TY BE (by omega) (by omega) (by rw [TC])) ?_
   refine Am rfl rfl rfl rfl (Ai rfl rfl BA (Aw hlc)) ?_
   refine Ym ?_
   refine Yo rfl (Aj (ad' := ad2.add i) rfl rfl rfl TT AQ (by omega) (by omega) (by rw [TC])) ?_
   refine Am rfl rfl rfl rfl (Ai rfl rfl AJ (Aw hcu)) ?_
   refine Ym ?_
   refine Flow.rel0 rfl rfl rfl rfl (Ar SO rfl rfl rfl (fun w hw => GQ (hg.keep0 hw) (by omega))) ?_
   rintro _ ⟨bl, rfl, hbl⟩
   refine Yo rfl (Bd rfl rfl) ?_
   refine Flow.end rfl ?_
   simp only [zq, zr]
   refine Fin.then ?_
   refine Zd (fun c11 => ?_) fun c11 => ?_
   ·refine Zs ?_
    refine Zm ?_
    iterate 2 refine Za ?_
    refine Zx <| DC.ret <| Aa <| Ae <| Aa <| Aa <| Ae <| Aa <| Ae <| Aa <| Aa <| Ae <| Aa ?_
    refine Fin.weak (E' := [(4, _), (5, _)]) ⟨rfl, rfl, trivial⟩ .nil ?_
    refine AL (.inl rfl) rfl rfl rfl ?_
    refine ⟨rfl, x, 111, rfl, by simp; intro ho; have h9 := hbl.2 ((ho.2.2 x l hlx).1 u (TD hu)); rw [h9] at c11; simp at c11⟩
   have hbl2 := hbl.1 (by simpa using c11)
   refine DC.skip <| Fin.then <| DC.seq ?_
   refine AF (cl := [.q, .q, .q, .v, .q, .q, .q, .q, .v, .q, .q, .v, .r]) (A := [0, 0, 3, 7, 0, 0, 0, 96, 224, 0, 992, 2016, 4095]) (order := [0, 1, 2, 3, 4, 5, 6, 7, 8, 9, 10, 11, 12]) [] mixed (by kernel_rfl) (fun w hw => hw.pick .nil) ?_
   iterate 2 refine Ym ?_
   refine Yo rfl (Aj (ad' := ad.add x) rfl rfl rfl TY BE (by omega) (by omega) (by rw [TC])) ?_
   refine Am rfl rfl rfl rfl (Ai rfl rfl BA (Aw hlc)) ?_
   iterate 3 refine Ym ?_
   refine Yo rfl (Aj (ad' := ad.add x) rfl rfl rfl TY BE (by omega) (by omega) (by rw [TC])) ?_
   refine Am rfl rfl rfl rfl (Ai rfl rfl BA (Aw hlc)) ?_
   refine Ym ?_
   refine Yo rfl (Aj (ad' := ad2.add i) rfl rfl rfl TT AQ (by omega) (by omega) (by rw [TC])) ?_
   refine Am rfl rfl rfl rfl (Ai rfl rfl AJ (Aw hcu)) ?_
   refine Flow.rel0 rfl rfl rfl rfl (Ar SC rfl rfl rfl (fun w hw => Eo (hSl0.keep0 hw) (by omega))) ?_
   rintro _ ⟨bs, rfl, hbs⟩
   refine Flow.end rfl ?_
   simp only [zq, zr]
   refine Fin.then ?_
   refine Zd (fun c13 => ?_) fun c13 => ?_
   ·refine Zs ?_
    refine Zm ?_
    iterate 2 refine Za ?_
    refine Zx <| DC.ret <| Ae <| Aa <| Aa <| Ae <| Aa <| Ae <| Aa <| Aa <| Ae <| Aa ?_
    refine Fin.weak (E' := [(4, _), (5, _)]) ⟨rfl, rfl, trivial⟩ .nil ?_
    refine AL (.inl rfl) rfl rfl rfl ?_
    refine ⟨rfl, x, 112, rfl, ?_⟩
    simp
    intro ho
    have hnd := (ho.2.2 x l hlx).2.1
    have hm : u ∈ l.take i := hbs.1 c13
    obtain ⟨k, hk⟩ := TF.1 hm
    rw [List.getElem?_take] at hk
    split at hk
    ·have := FJ hnd hk hu; omega
    cases hk
   refine DC.skip <| Fin.inBlock <| Fin.then <| DC.region ?_
   refine Zm ?_
   refine Zp ?_
   refine Za ?_
   refine Seq.nil ?_
   have hnot : u ∉ l.take i := fun hm => by rw [hbs.2 hm] at c13; cases c13
   refine Ag (i + 1) (by omega) ⟨by omega, fun h hh => ?_, ?_⟩ ⟨rfl, rfl, rfl, rfl, trivial⟩ (.cons 0 rfl .nil)
   ·rw [htk, List.mem_append] at hh
    rcases hh with hh | hh
    ·exact hfr h hh
    simp at hh; subst hh; exact hbl2
   rw [htk, List.nodup_append]
   refine ⟨hnd, by simp, fun a ha b hb e => ?_⟩
   simp at hb; subst hb; subst e
   exact hnot ha
  refine DC.exit <| Ad <| Ad <| Ah <| Fin.then <| DC.seq ?_
  have hil : i = l.length := by simp at c9; omega
  subst hil
  rw [List.take_length] at hfr hnd
  have hqs := Gl hnd (b := outs es x) (fun h hh => (Bl hV).2 (hfr h hh))
  refine AF (cl := [.q, .q, .q, .v, .q, .v, .q, .r, .q]) (A := [0, 0, 3, 7, 15, 0, 0, 96, 255]) (order := [0, 1, 2, 3, 4, 5, 6, 7, 8]) [] mixed (by kernel_rfl) (fun w hw => hw.pick .nil) ?_
  iterate 2 refine Ym ?_
  refine Yo rfl (Aj (ad' := ad.add x) rfl rfl rfl TY BE (by omega) (by omega) (by rw [TC])) ?_
  refine Am rfl rfl rfl rfl (Ai rfl rfl BA (Aw hlc)) ?_
  refine Yo rfl (CC rfl rfl TT) ?_
  refine Am rfl rfl rfl rfl (Ay (vs := [_, _]) rfl rfl Bn Bg rfl (Ak rfl)) ?_
  refine Ym ?_
  refine Flow.rel0 rfl rfl rfl rfl (Ar SB rfl rfl rfl (fun w hw => Ep (hg.keep0 hw) hV)) ?_
  rintro _ rfl
  refine Yo rfl (E7 rfl rfl rfl) ?_
  refine Flow.end rfl ?_
  simp only [zq, zr]
  refine Fin.then ?_
  refine Zd (fun c15 => ?_) fun c15 => ?_
  ·refine Zs ?_
   refine Zm ?_
   iterate 2 refine Za ?_
   refine Zx <| DC.ret <| Ae <| Aa <| Aa <| Ae <| Aa ?_
   refine Fin.weak (E' := [(4, _), (5, _)]) ⟨rfl, rfl, trivial⟩ .nil ?_
   refine AL (.inl rfl) rfl rfl rfl ?_
   refine ⟨rfl, x, 113, rfl, ?_⟩
   simp
   intro ho
   have := (ho.2.2 x l hlx).2.2
   simp at c15; omega
  refine DC.skip <| Fin.inBlock <| Fin.then <| DC.region ?_
  refine Zm ?_
  refine Zp ?_
  refine Za ?_
  refine Seq.nil ?_
  refine Ag (x + 1) (by omega) ⟨by omega, fun y l' hy hl' => ?_⟩ ⟨rfl, rfl, rfl, trivial⟩ (.cons 0 rfl .nil)
  rcases TE.1 hy with hy | rfl
  ·exact hD y l' hy hl'
  rw [hlx] at hl'; cases hl'
  refine ⟨hfr, hnd, ?_⟩
  simp at c15
  have : cnt es y = (outs es y).length := rfl
  omega
 refine DC.exit <| Ad <| Ad <| Ah <| Fin.then <| Zs ?_
 iterate 2 refine Za ?_
 refine Zx <| DC.ret ?_
 refine Fin.weak (E' := [(4, _), (5, _)]) ⟨rfl, rfl, trivial⟩ .nil ?_
 refine AL (.inl rfl) rfl rfl rfl ?_
 have hxe : x = rs.length := by simp at c6; omega
 subst hxe
 exact ⟨rfl, 0, 0, rfl, by simp only [true_iff]; exact ⟨hV, rfl, fun y l hl => hD y l (TA.1 hl).1 hl⟩⟩
theorem Ix {N : Int} {es : List Pr} {rs : List (List Int)} {va v : Value} {w : World} (hg : PrV w va es) (hl : LsV w v rs) (hs : ∀ l, l ∈ rs → l.length ≤ 1000000000) (hok : RotL N es rs) :
  Calls Tryz.prog 150 #[.agg #[.int .i64 N, va], v] w (Ret w [] fun r M =>
   ∃ g f, r = .tuple #[.slice (some ⟨g, 0, none⟩) (es.length * 2) (es.length * 2), .int .i64 0] ∧ NxOk rs rs.length f ∧ M = [blk g 3 (ints (tab (es.length * 2) f)).toArray]) := by
 obtain ⟨A, cap, hva, _⟩ := id hg
 subst hva
 have hl0 := hl
 obtain ⟨B, capb, rfl, hrb, hlb, hcb, hleb⟩ := hl
 refine Ao (K := []) (args := [_, _]) (L := []) Tryz.func150 rfl Tryz.ntmps150 rfl (Own.start _ _) ?_
 refine Zs ?_
 refine Zw (Ba rfl rfl rfl) fun g2 => ?_
 iterate 2 refine Za ?_
 refine Zx <| Zs ?_
 refine Zu (Ay (vs := [_, _]) rfl rfl Bn Bg rfl (Ak rfl)) ?_
 refine Zm ?_
 refine Seq.rel0 rfl rfl (Ar SU rfl rfl rfl (fun w hw => Hz (hg.keep0 hw) (hl0.keep0 hw) hs)) ?_
 rintro _ ⟨xv, xe, rfl, hxe⟩
 refine Zm ?_
 iterate 2 refine Ze ?_
 iterate 2 refine Za ?_
 refine Zx <| DC.seq <| Zs ?_
 refine Zm ?_
 refine Zo (BK rfl rfl rfl) ?_
 refine Zx ?_
 refine Zd (fun c2 => ?_) fun c2 => ?_
 ·have := hxe.2 hok
  simp at c2; omega
 refine DC.skip <| Fin.then <| DC.seq ?_
 obtain ⟨hV, hN, hrow⟩ := id hok
 have hfew := hV.few
 refine DC.region ?_
 refine Zf Be ?_
 refine Zl Bu ?_
 refine Zn TU ?_
 refine Zo (Cl rfl rfl rfl (by omega)) ?_
 rw [show (2 : Int) * (es.length : Int) = ((es.length * 2 : Nat) : Int) by omega]
 refine Zw (Ca (k := es.length * 2) rfl rfl rfl TT AQ DE B0 rfl (by omega) (by omega) (Ch _)) fun g24 => ?_
 refine Za ?_
 refine Zx <| DC.seq <| Zs ?_
 refine Za ?_
 refine Zx <| DC.block ?_
 refine DC.loop (ι := NxI) (fun j => j.v ≤ rs.length ∧ NxOk rs j.v j.f)
  (fun j => [(1, .slice B rs.length capb), (8, .slice (some ⟨g24, 0, none⟩) (es.length * 2) (es.length * 2)), (9, .int .i64 j.v)])
  (fun j => [blk g24 3 (ints (tab (es.length * 2) j.f)).toArray]) (fun j => rs.length - j.v) ⟨0, fun _ => 0⟩ ⟨Nat.zero_le _, fun _ _ _ _ h => absurd h (TS _)⟩ ⟨rfl, rfl, rfl, trivial⟩ (.cons 0 rfl .nil) ?_
 rintro ⟨v, f⟩ ⟨hv, hd⟩
 dsimp only at hv hd ⊢
 refine DC.seq <| Zs ?_
 iterate 2 refine Zm ?_
 refine Zn TY ?_
 refine Zc ?_
 refine Zx ?_
 refine Zd (fun c6 => ?_) fun c6 => ?_
 ·have hvlt : v < rs.length := by simpa using c6
  obtain ⟨l, hl⟩ : ∃ l, rs[v]? = some l := ⟨_, Tz hvlt⟩
  obtain ⟨adb, lv, rfl, hc, Al, capl, rfl, hrl, hl1, hl2, hl3⟩ := hrb v l hl
  obtain ⟨hfr, hnd, _⟩ := hrow v l hl
  refine DC.skip <| Fin.then <| DC.seq <| DC.block <| Zs ?_
  refine Za ?_
  refine Zx <| DC.block ?_
  refine DC.loop (ι := NxI) (fun j => j.v ≤ l.length ∧ NxOk rs v j.f ∧ ∀ (i : Nat) h, i < j.v → l[i]? = some h → l[(i + 1) % l.length]? = some (j.f h.toNat))
   (fun j => [(1, .slice (some adb) rs.length capb), (8, .slice (some ⟨g24, 0, none⟩) (es.length * 2) (es.length * 2)), (9, .int .i64 v), (10, .int .i64 j.v)])
   (fun j => [blk g24 3 (ints (tab (es.length * 2) j.f)).toArray]) (fun j => l.length - j.v) ⟨0, f⟩ ⟨Nat.zero_le _, hd, fun _ _ h => absurd h (TS _)⟩ ⟨rfl, rfl, rfl, rfl, trivial⟩ (.cons 0 rfl .nil) ?_
  rintro ⟨k, f2⟩ ⟨hk, hd2, hin⟩
  dsimp only at hk hd2 hin ⊢
  refine DC.seq <| Zs ?_
  iterate 3 refine Zm ?_
  refine Zo (Aj (ad' := adb.add v) rfl rfl rfl TY BE (by omega) (by omega) (by rw [TC])) ?_
  refine Zu (Ai rfl rfl BA (Aw hc)) ?_
  refine Zn TT ?_
  refine Zc ?_
  refine Zx ?_
  refine Zd (fun c9 => ?_) fun c9 => ?_
  ·have hklt : k < l.length := by simpa using c9
   obtain ⟨h, hh⟩ : ∃ h, l[k]? = some h := ⟨_, Tz hklt⟩
   obtain ⟨hh0, hh1, hh2⟩ := hfr h (TD hh)
   obtain ⟨adl, rfl, hch⟩ := hrl.int hh
   have hml : (k + 1) % l.length < l.length := Nat.mod_lt _ (by omega)
   obtain ⟨h', hh'⟩ : ∃ h', l[(k + 1) % l.length]? = some h' := ⟨_, Tz hml⟩
   obtain ⟨adl', e, hch'⟩ := hrl.int hh'
   cases e
   have emod : ((k : Int) + 1) % (l.length : Int) = (((k + 1) % l.length : Nat) : Int) := by rw [Int.natCast_emod, Int.natCast_add]; rfl
   refine DC.skip <| Fin.then <| DC.seq <| DC.block ?_
   refine AF (cl := [.q, .q, .q, .q, .v, .q, .q, .v, .q, .q, .q, .v, .q, .q, .q, .q, .q, .v, .q, .q, .q, .v, .q, .g]) (A := [0, 0, 0, 6, 14, 0, 62, 126, 0, 0, 768, 1792, 0, 4096, 0, 0, 49152, 114688, 245760, 520192, 1048320, 2096896, 4194303, 8388607]) (order := [0, 1, 2, 3, 4, 5, 6, 7, 8, 9, 10, 11, 12, 13, 14, 15, 16, 17, 18, 19, 20, 21, 22, 23]) [] mixed (by kernel_rfl) (fun w hw => hw.pick .nil) ?_
   iterate 3 refine Ym ?_
   refine Yo rfl (Aj (ad' := adb.add v) rfl rfl rfl TY BE (by omega) (by omega) (by rw [TC])) ?_
   refine Am rfl rfl rfl rfl (Ai rfl rfl BA (Aw hc)) ?_
   refine Ym ?_
   refine Yo rfl (Aj (ad' := adl.add k) rfl rfl rfl TT AQ (by omega) (by omega) (by rw [TC])) ?_
   refine Am rfl rfl rfl rfl (Ai rfl rfl AJ (Aw hch)) ?_
   iterate 2 refine Ym ?_
   refine Yo rfl (Aj (ad' := adb.add v) rfl rfl rfl TY BE (by omega) (by omega) (by rw [TC])) ?_
   refine Am rfl rfl rfl rfl (Ai rfl rfl BA (Aw hc)) ?_
   refine Ym ?_
   refine Yo rfl (CI rfl rfl rfl (by omega)) ?_
   iterate 2 refine Ym ?_
   refine Yo rfl (Aj (ad' := adb.add v) rfl rfl rfl TY BE (by omega) (by omega) (by rw [TC])) ?_
   refine Am rfl rfl rfl rfl (Ai rfl rfl BA (Aw hc)) ?_
   refine Yo rfl (CC rfl rfl TT) ?_
   refine Yo rfl (IW (j := (l.length : Int)) rfl rfl rfl (by omega) (by omega)) ?_
   rw [emod]
   refine Yo rfl (Aj (ad' := adl.add ((k + 1) % l.length)) rfl rfl rfl TT AQ (by omega) (by omega) (by rw [TC])) ?_
   refine Am rfl rfl rfl rfl (Ai rfl rfl AJ (Aw hch')) ?_
   refine Yo rfl (Aj (ad' := ⟨g24, h.toNat, none⟩) rfl rfl rfl TT AQ (by omega) (by omega) (by rw [AC])) ?_
   refine AS rfl rfl rfl rfl (AE (cs' := (ints (tab (es.length * 2) (upd f2 h.toNat h'))).toArray) rfl rfl rfl AQ rfl (by simp; omega) BR) (fun w hw => hw.pick (.nil)) ?_
   refine Flow.end rfl ?_
   simp only [zq, zr]
   refine Fin.inBlock <| Fin.then <| DC.region ?_
   refine Zm ?_
   refine Zp ?_
   refine Za ?_
   refine Seq.nil ?_
   refine Ag (NxI.mk (k + 1) (upd f2 h.toNat h')) (by dsimp only; omega) ⟨by dsimp only; omega, ?_, ?_⟩ ⟨rfl, rfl, rfl, rfl, trivial⟩ (.cons 0 rfl .nil)
   ·intro x l' i h2 hx hl' hi2
    dsimp only
    unfold upd
    rw [if_neg ?_]
    ·exact hd2 x l' i h2 hx hl' hi2
    intro e
    obtain ⟨h4, h5, h6⟩ := (hrow x l' hl').1 h2 (TD hi2)
    have : h2 = h := by omega
    subst this
    omega
   intro i h2 hi2 hl2
   dsimp only at hi2 ⊢
   unfold upd
   split
   ·rename_i e
    have h4 := (hfr h2 (TD hl2)).1
    have : h2 = h := by omega
    subst this
    have : i = k := FJ hnd hl2 hh
    subst this; exact hh'
   rename_i e
   rcases TE.1 hi2 with hi2 | rfl
   ·exact hin i h2 hi2 hl2
   rw [hh] at hl2; cases hl2; exact absurd rfl e
  refine DC.exit <| Ad <| Ad <| Ah <| Fin.inBlock <| Fin.then <| DC.region ?_
  refine Zm ?_
  refine Zp ?_
  refine Za ?_
  refine Seq.nil ?_
  have hkl : k = l.length := by simp at c9; omega
  subst hkl
  refine Ag (NxI.mk (v + 1) f2) (by dsimp only; omega) ⟨by dsimp only; omega, ?_⟩ ⟨rfl, rfl, rfl, trivial⟩ (.cons 0 rfl .nil)
  intro x l' i h2 hx hl' hi2
  dsimp only at hx ⊢
  rcases TE.1 hx with hx | rfl
  ·exact hd2 x l' i h2 hx hl' hi2
  rw [hl] at hl'; cases hl'
  exact hin i h2 (TA.1 hi2).1 hi2
 refine DC.exit <| Ad <| Ad <| Ah <| Fin.then <| Zs ?_
 refine Zm ?_
 iterate 2 refine Za ?_
 refine Zx <| DC.ret ?_
 refine Fin.weak (E' := [(4, _), (5, _)]) ⟨rfl, rfl, trivial⟩ (.cons 0 rfl .nil) ?_
 refine AL (.inl rfl) rfl rfl rfl ?_
 have hvl : v = rs.length := by simp at c6; omega
 subst hvl
 exact ⟨g24, f, rfl, hd, rfl⟩
theorem Iv {N : Int} {es : List Pr} {rs : List (List Int)} {va v : Value} {w : World} (hg : PrV w va es) (hl : LsV w v rs) (hs : ∀ l, l ∈ rs → l.length ≤ 1000000000) (hok : RotL N es rs) :
  Calls Tryz.prog 116 #[.agg #[.int .i64 N, va], v] w (Ret w [] fun r M =>
   ∃ v f, r = .tuple #[v, .int .i64 0] ∧ NxOk rs rs.length f ∧ M = [slc v 3 1 (ints (tab (es.length * 2) fun h => f (twn h)))]) := by
 obtain ⟨A, cap, hva, _⟩ := id hg
 subst hva
 obtain ⟨B, capb, hvb, _⟩ := id hl
 subst hvb
 have hfew := hok.1.few
 refine Ao (K := []) (args := [_, _]) (L := []) Tryz.func116 rfl Tryz.ntmps116 rfl (Own.start _ _) ?_
 refine Zs ?_
 refine Zw (Ba rfl rfl rfl) fun g2 => ?_
 iterate 2 refine Za ?_
 refine Zx <| Zs ?_
 refine Zu (Ay (vs := [_, _]) rfl rfl Bn Bg rfl (Ak rfl)) ?_
 refine Zm ?_
 refine Seq.rel rfl rfl (Ar S3 rfl rfl rfl (fun w hw => Ix (hg.keep0 hw) (hl.keep0 hw) hs hok)) ?_
 rintro _ _ ⟨gn, f, rfl, hnx, rfl⟩
 refine Zm ?_
 iterate 2 refine Ze ?_
 iterate 2 refine Za ?_
 refine Zx <| DC.seq ?_
 simp only [zs]
 refine DC.region ?_
 refine Za ?_
 refine Zx <| DC.seq <| Zs ?_
 refine Za ?_
 refine Zx <| DC.block ?_
 refine DC.own (fun w hw => AX (t := 3) (m := 1) hw) ?_
 refine DC.loop (ι := Nat × Value) (fun j => j.1 ≤ es.length * 2) (fun j => [(6, .slice (some ⟨gn, 0, none⟩) (es.length * 2) (es.length * 2)), (7, .int .i64 0), (8, j.2), (9, .int .i64 (j.1 : Nat))])
  (fun j => [slc j.2 3 1 (ints (tab j.1 fun h => f (twn h))), blk gn 3 (ints (tab (es.length * 2) f)).toArray]) (fun j => es.length * 2 - j.1) (0, .slice none 0 0) (Nat.zero_le _) ⟨rfl, rfl, rfl, rfl, trivial⟩ (.cons 0 rfl (.cons 0 rfl .nil)) ?_
 rintro ⟨h, vs⟩ hh
 dsimp only at hh ⊢
 refine DC.seq <| Zs ?_
 iterate 2 refine Zm ?_
 refine Zn TT ?_
 refine Zc ?_
 refine Zx ?_
 refine Zd (fun c4 => ?_) fun c4 => ?_
 ·have hlt : h < es.length * 2 := by simp at c4; omega
  have htw : twn h < es.length * 2 := by unfold twn; split <;> omega
  have etw : tw (h : Int) = ((twn h : Nat) : Int) := by unfold tw twn; split <;> split <;> omega
  refine DC.skip <| Fin.then <| DC.seq <| DC.block <| Zs ?_
  refine Zm ?_
  refine Seq.rel0 rfl rfl (Ar S2 rfl rfl rfl (fun w hw => JB (by omega) (by omega))) ?_
  rintro _ rfl
  rw [etw]
  refine Za ?_
  refine Zx <| DC.region ?_
  iterate 3 refine Zm ?_
  refine Zo (Aj (ad' := ⟨gn, twn h, none⟩) rfl rfl rfl TT AQ (by omega) (by omega) (by rw [AC]; rfl)) ?_
  refine Zu (Ai rfl rfl AJ (Bi (Bt htw))) ?_
  refine Zw (AP (cs := #[_]) rfl rfl TT AQ B0 rfl (by decide) (by decide) rfl rfl) fun g30 => ?_
  refine Seq.gen rfl rfl (AK (F := [blk g30 3 #[.int .i64 (f (twn h))], blk gn 3 (ints (tab (es.length * 2) f)).toArray]) (vs := ints (tab h fun h => f (twn h))) (k := 1) (news := [.int .i64 (f (twn h))]) rfl rfl rfl TT AQ DE B0 rfl (by decide) (by decide)
   (fun w hw => hw.pick (.cons 1 rfl (.cons 0 rfl (.cons 0 rfl .nil)))) (.inl ⟨_, _, rfl, Ak rfl⟩) rfl (by intro u hu; simp at hu; subst hu; rfl) (by simp [tab]; omega)) ?_
  rintro v31 _ rfl
  refine Za ?_
  refine Seq.nil <| Fin.inBlock <| Fin.then <| DC.region ?_
  refine Zm ?_
  refine Zp ?_
  refine Za ?_
  refine Seq.nil ?_
  refine Ag (h + 1, v31) (by dsimp only; omega) (by dsimp only; omega) ⟨rfl, rfl, rfl, rfl, trivial⟩ (.cons' 0 rfl (by dsimp only; unfold tab; rw [List.range_succ, List.map_append, AU]; rfl) (.cons 1 rfl .nil))
 refine DC.exit <| Ad <| Ad <| Ah <| Fin.then <| Zs ?_
 iterate 2 refine Zm ?_
 iterate 2 refine Za ?_
 refine Zx <| DC.ret ?_
 refine Fin.weak (E' := [(4, _), (5, _)]) ⟨rfl, rfl, trivial⟩ (.cons 0 rfl .nil) ?_
 refine AL (.inl rfl) rfl rfl rfl ?_
 have hhe : h = es.length * 2 := by simp at c4; omega
 subst hhe
 exact ⟨vs, f, rfl, hnx, rfl⟩
open Classical in
theorem KN {N : Int} {es : List Pr} {rs : List (List Int)} {va v : Value} {w : World} (hg : PrV w va es) (hl : LsV w v rs) (hs : ∀ l, l ∈ rs → l.length ≤ 1000000000) (hok : RotL N es rs) :
  Calls Tryz.prog 91 #[.agg #[.int .i64 N, va], v] w (Ret w [] fun r M =>
   ∃ v fs f, r = .tuple #[v, .int .i64 0] ∧ NxOk rs rs.length f ∧ FaD (es.length * 2) f ⟨es.length * 2, fun _ => true, fs, v⟩ ∧ M = slc v 44 1 (rowsV fs) :: rowsC 3 fs) := by
 obtain ⟨A, cap, hva, _⟩ := id hg
 subst hva
 obtain ⟨B, capb, hvb, _⟩ := id hl
 subst hvb
 have hfew := hok.1.few
 refine Ao (K := []) (args := [_, _]) (L := []) Tryz.func91 rfl Tryz.ntmps91 rfl (Own.start _ _) ?_
 refine Zs ?_
 refine Zw (Ba rfl rfl rfl) fun g2 => ?_
 iterate 2 refine Za ?_
 refine Zx <| Zs ?_
 refine Zu (Ay (vs := [_, _]) rfl rfl Bn Bg rfl (Ak rfl)) ?_
 refine Zm ?_
 refine Seq.rel rfl rfl (Ar Tf rfl rfl rfl (fun w hw => Iv (hg.keep0 hw) (hl.keep0 hw) hs hok)) ?_
 rintro _ _ ⟨sv, f, rfl, hnx, rfl⟩
 refine Zm ?_
 iterate 2 refine Ze ?_
 iterate 2 refine Za ?_
 refine Zx <| DC.seq <| Zs ?_
 refine Zm ?_
 refine Zo (BK rfl rfl rfl) ?_
 refine Zx ?_
 refine Zd (fun c2 => ?_) fun c2 => ?_
 ·simp at c2
 refine DC.skip <| Fin.then <| DC.seq ?_
 simp only [zs]
 obtain ⟨hP, hf0⟩ := G1 hok hnx
 obtain ⟨n, hn⟩ : ∃ n, n = es.length * 2 := ⟨_, rfl⟩
 rw [← hn] at hP hf0 ⊢
 have hn1 : n ≤ 8388608 := by omega
 have htl : ∀ q : Nat → Int, (tab n q).length = n := fun q => by simp [tab]
 refine DT 0 rfl (by rw [htl]; omega) ?_
 rintro ⟨As, cs, rfl⟩
 rw [htl]
 refine MV 0 rfl ?_
 intro hAs
 refine DC.region ?_
 refine Zm ?_
 refine Zn TT ?_
 refine Zw (Ca (k := n) rfl rfl rfl TZ Ft R2 Rv rfl (by omega) (by omega) (DK _)) fun g24 => ?_
 refine Za ?_
 refine Zx <| Zs ?_
 refine Za ?_
 refine Zx <| DC.seq <| Zs ?_
 refine Za ?_
 refine Zx <| DC.block ?_
 refine DC.own (fun w hw => AX (t := 44) (m := 1) hw) ?_
 refine DC.loop (ι := FaI) (fun j => FaD n f j)
  (fun j => [(6, .slice As n cs), (8, .slice (some ⟨g24, 0, none⟩) n n), (9, j.v), (10, .int .i64 j.h)])
  (fun j => slc j.v 44 1 (rowsV j.fs) :: blk g24 4 (bls n j.g).toArray :: slc (.slice As n cs) 3 1 (ints (tab n fun h => f (twn h))) :: rowsC 3 j.fs) (fun j => n - j.h) ⟨0, fun _ => false, [], .slice none 0 0⟩
  ⟨Nat.zero_le _, fun x _ => ⟨fun h => by simp at h, fun ⟨j, q, h, _⟩ => absurd h (TS _)⟩, by simp, by simp⟩ ⟨rfl, rfl, rfl, rfl, trivial⟩ (.cons 0 rfl (.cons 0 rfl (.cons 0 rfl .nil))) ?_
 rintro ⟨h, g, fs, v9⟩ hD
 have hDle := hD.le
 have hDse := hD.seen
 dsimp only at hDle hDse ⊢
 refine DC.seq <| Zs ?_
 iterate 2 refine Zm ?_
 refine Zn TT ?_
 refine Zc ?_
 refine Zx ?_
 refine Zd (fun c7 => ?_) fun c7 => ?_
 ·have hlt : h < n := by simpa using c7
  obtain ⟨ad, rfl⟩ := hAs (by rw [htl]; omega)
  refine DC.skip <| Fin.then <| DC.seq <| DC.block <| DC.seq <| Zs ?_
  iterate 2 refine Zm ?_
  refine Zo (Aj (ad' := ⟨g24, h, none⟩) rfl rfl rfl TZ Ft (by omega) (by omega) (by rw [AC]; rfl)) ?_
  refine Zu (Ai rfl rfl II (Bi (Ei g hlt))) ?_
  refine Zx ?_
  refine Zd (fun c9 => ?_) fun c9 => ?_
  ·refine DC.exit <| Ad <| Ah <| Fin.then <| DC.region ?_
   refine Zm ?_
   refine Zp ?_
   refine Za ?_
   refine Seq.nil ?_
   have hs : SeenB (phi f) h h := (hDse h hlt).1 (by simpa using c9)
   have hnl : ¬ Lead (phi f) h := (EQ hP hlt).1 hs
   refine Ag ⟨h + 1, g, fs, v9⟩ (by dsimp only; omega) ⟨by dsimp only; omega, ?_, ?_, hD.short⟩ ⟨rfl, rfl, rfl, rfl, trivial⟩ (Pick.all _)
   ·intro x hx
    dsimp only
    rw [hDse x hx, E5 hs]
   dsimp only
   rw [List.range_succ, List.filter_append, List.map_append, hD.heads]
   simp [hnl]
  have hgh : ¬ g h = true := by simpa using c9
  have hns : ¬ SeenB (phi f) h h := fun h1 => hgh ((hDse h hlt).2 h1)
  refine DC.skip <| Fin.then <| Zs ?_
  refine Za ?_
  refine Zx <| Zs ?_
  refine Zm ?_
  refine Za ?_
  refine Zx <| DC.seq <| DC.block ?_
  refine DC.own (fun w hw => AX (t := 3) (m := 1) hw) ?_
  refine DC.loop (ι := FaJ) (fun j => FaW n f h g j)
   (fun j => [(6, .slice (some ad) n cs), (8, .slice (some ⟨g24, 0, none⟩) n n), (9, v9), (10, .int .i64 h), (11, j.v), (12, .int .i64 (itr (phi f) j.t h : Nat))])
   (fun j => slc j.v 3 1 (ints (faceL f h j.t)) :: slc v9 44 1 (rowsV fs) :: blk g24 4 (bls n j.g).toArray :: slc (.slice (some ad) n cs) 3 1 (ints (tab n fun h => f (twn h))) :: rowsC 3 fs) (fun j => n - j.t) ⟨0, g, .slice none 0 0⟩
   ⟨by simp, fun x hx => by simp, fun h => absurd h (Nat.lt_irrefl _)⟩ ⟨rfl, rfl, rfl, rfl, rfl, rfl, trivial⟩ (Pick.all _) ?_
  rintro ⟨t, g', v11⟩ hW
  have hWse := hW.seen
  have hk := CJ hP hlt t
  dsimp only at hWse ⊢
  have htn : t ≤ n := by
   have := Do (b := List.range n) hW.nd (fun y hy => by obtain ⟨q, _, rfl⟩ := List.mem_map.1 hy; exact TN.2 (CJ hP hlt q))
   simpa using this
  obtain ⟨k, hkk⟩ : ∃ k, k = itr (phi f) t h := ⟨_, rfl⟩
  rw [← hkk] at hk ⊢
  have htw : twn k < n := by unfold twn; split <;> omega
  have hval : (ints (tab n fun h => f (twn h)))[k]? = some (.int .i64 ((phi f k : Nat) : Int)) := by
   rw [BL (Bw _ hk)]; congr 2; exact (Int.toNat_of_nonneg (hf0 _ htw)).symm
  refine DC.seq <| Zs ?_
  iterate 2 refine Zm ?_
  refine Zo (Aj (ad' := ⟨g24, k, none⟩) rfl rfl rfl TZ Ft (by omega) (by omega) (by rw [AC]; rfl)) ?_
  refine Zu (Ai rfl rfl II (Bi (Ei g' hk))) ?_
  refine Zo (Bd rfl rfl) ?_
  refine Zx ?_
  refine Zd (fun c12 => ?_) fun c12 => ?_
  ·have hgk : ¬ (g' k = true) := by simpa using c12
   have hkn : ¬ ∃ i, i < t ∧ itr (phi f) i h = k := fun h1 => hgk ((hWse k hk).2 (.inr h1))
   have hnd1 : ((List.range (t + 1)).map fun i => itr (phi f) i h).Nodup := by
    rw [List.range_succ, List.map_append, List.nodup_append]
    refine ⟨hW.nd, by simp, fun a ha b hb e => ?_⟩
    simp at hb; subst hb; subst e
    obtain ⟨q, hq, e⟩ := List.mem_map.1 ha
    exact hkn ⟨q, TN.1 hq, by rw [hkk]; exact e⟩
   have htn1 : t + 1 ≤ n := by
    have := Do (b := List.range n) hnd1 (fun y hy => by obtain ⟨q, _, rfl⟩ := List.mem_map.1 hy; exact TN.2 (CJ hP hlt q))
    simpa using this
   refine DC.skip <| Fin.then <| DC.block <| Zs ?_
   iterate 2 refine Zm ?_
   refine Zo (Aj (ad' := ⟨g24, k, none⟩) rfl rfl rfl TZ Ft (by omega) (by omega) (by rw [AC]; rfl)) ?_
   refine Zy (AE (cs' := (bls n (updB g' k true)).toArray) rfl rfl rfl Ft rfl (by simp; omega) (Eh g' true)) ?_
   refine Zx <| Zs ?_
   iterate 2 refine Zm ?_
   refine Zw (AP (cs := #[_]) rfl rfl TT AQ B0 rfl (by decide) (by decide) rfl rfl) fun g46 => ?_
   refine Seq.gen rfl rfl (AK (F := blk g46 3 #[.int .i64 (k : Nat)] :: slc v9 44 1 (rowsV fs) :: blk g24 4 (bls n (updB g' k true)).toArray :: slc (.slice (some ad) n cs) 3 1 (ints (tab n fun h => f (twn h))) :: rowsC 3 fs) (vs := ints (faceL f h t)) (k := 1) (news := [.int .i64 (k : Nat)]) rfl rfl rfl TT AQ DE B0 rfl (by decide) (by decide)
    (fun w hw => hw.pick (.cons 1 rfl (.cons 0 rfl (Pick.all _)))) (.inl ⟨_, _, rfl, Ak rfl⟩) rfl (Bm [(k : Int)] []) (by simp [faceL]; omega)) ?_
   rintro v47 _ rfl
   refine Za ?_
   refine Zx <| DC.region ?_
   iterate 2 refine Zm ?_
   refine Zo (Aj (ad' := ad.add k) rfl rfl rfl TT AQ (by omega) (by omega) (by rw [TC])) ?_
   refine Zu (Ai rfl rfl AJ ((fun w hw => BB (i := 4) rfl w hw k _ hval))) ?_
   refine Za ?_
   refine Seq.nil <| Fin.inBlock ?_
   refine Fin.own (fun w hw => hw.sub (.cons_cons _ (.cons _ (List.Sublist.refl _)))) ?_
   refine Ag ⟨t + 1, updB g' k true, v47⟩ (by dsimp only; omega) ⟨hnd1, ?_, ?_⟩ ⟨rfl, rfl, rfl, rfl, rfl, by rw [hkk]; rfl, trivial⟩ (.cons' 0 rfl (by dsimp only; unfold faceL; rw [List.range_succ, List.map_append, AU, hkk]; rfl) (Pick.all _))
   ·intro x hx
    dsimp only
    unfold updB
    split
    ·rename_i e; subst e
     simp only [true_iff]
     exact .inr ⟨t, by omega, hkk.symm⟩
    rename_i e
    rw [hWse x hx]
    constructor
    ·rintro (h1 | ⟨i, hi, h1⟩)
     ·exact .inl h1
     exact .inr ⟨i, by omega, h1⟩
    rintro (h1 | ⟨i, hi, h1⟩)
    ·exact .inl h1
    rcases TE.1 hi with hi | rfl
    ·exact .inr ⟨i, hi, h1⟩
    exact absurd (by rw [hkk, h1]) (Ne.symm e)
   intro _ hgh
   by_cases h0 : 0 < t
   ·exact hW.new h0 hgh
   have : k = h := by rw [hkk, show t = 0 by omega]; rfl
   exact hgk ((hWse k hk).2 (.inl (by rw [this]; exact hgh)))
  refine DC.exit <| Ad <| Ad <| Ah <| Fin.then ?_
  have hgk : g' k = true := by simpa using c12
  have hfl : (faceL f h t).length = t := by simp [faceL]
  refine DT 0 rfl (by rw [hfl]; omega) ?_
  rintro ⟨A11, c11', rfl⟩
  rw [hfl]
  have ht0 : 0 < t := by
   rcases Nat.eq_zero_or_pos t with h0 | h0
   ·subst h0
    exfalso
    have hkh : k = h := hkk
    subst hkh
    exact hgh (by have := (hWse k hk).1 hgk; simpa using this)
   exact h0
  have hlead : Lead (phi f) h := by
   apply Classical.byContradiction
   intro h1; exact hns ((EQ hP hlt).2 h1)
  have hall := IL hP hlt ht0 hns (by
   rw [← hkk]
   rcases (hWse k hk).1 hgk with h1 | h1
   ·exact .inl ((hDse k hk).1 h1)
   exact .inr h1)
  have hfslen : fs.length ≤ h := by
   have h1 := congrArg List.length hD.heads
   simp only [List.length_map] at h1
   have h2 := List.length_filter_le (fun x => decide (Lead (phi f) x)) (List.range h)
   simp at h2; omega
  refine DC.region ?_
  iterate 2 refine Zm ?_
  refine Zw (AP (cs := #[_]) rfl rfl TW BE Da rfl (by decide) (by decide) rfl rfl) fun g54 => ?_
  refine Seq.gen rfl rfl (AK (F := blk g54 44 #[.slice A11 t c11'] :: slc (.slice A11 t c11') 3 1 (ints (faceL f h t)) :: blk g24 4 (bls n g').toArray :: slc (.slice (some ad) n cs) 3 1 (ints (tab n fun h => f (twn h))) :: rowsC 3 fs) (vs := rowsV fs) (k := 1) (news := [.slice A11 t c11']) rfl rfl rfl TW BE IH Da rfl (by decide) (by decide)
   (fun w hw => hw.pick (.cons 2 rfl (.cons 0 rfl (.cons 0 rfl (Pick.all _))))) (.inl ⟨_, _, rfl, Ak rfl⟩) rfl (fun u hu => by rw [List.mem_singleton.1 hu]; rfl) (by simp; omega)) ?_
  rintro v54 _ rfl
  refine Za ?_
  refine Seq.nil <| Fin.inBlock <| Fin.then <| DC.region ?_
  refine Zm ?_
  refine Zp ?_
  refine Za ?_
  refine Seq.nil ?_
  refine Fin.own (M := slc v54 44 1 (rowsV (fs ++ [(.slice A11 t c11', faceL f h t)])) :: blk g24 4 (bls n g').toArray :: slc (.slice (some ad) n cs) 3 1 (ints (tab n fun h => f (twn h))) :: rowsC 3 (fs ++ [(.slice A11 t c11', faceL f h t)])) (fun w hw => ?_) ?_
  ·have e1 : rowsV (fs ++ [(.slice A11 t c11', faceL f h t)]) = rowsV fs ++ [.slice A11 t c11'] := by simp [rowsV]
   have e2 : rowsC 3 (fs ++ [(.slice A11 t c11', faceL f h t)]) = rowsC 3 fs ++ [slc (.slice A11 t c11') 3 1 (ints (faceL f h t))] := by simp [rowsC]
   rw [e1, e2]
   have h1 := hw.sub (.cons_cons _ (.cons _ (List.Sublist.refl _)))
   refine h1.perm ?_
   refine List.Perm.cons _ ?_
   have := TR (l₁ := blk g24 4 (bls n g').toArray :: slc (.slice (some ad) n cs) 3 1 (ints (tab n fun h => f (twn h))) :: rowsC 3 fs) (l₂ := [slc (.slice A11 t c11') 3 1 (ints (faceL f h t))])
   simpa using this
  refine Ag ⟨h + 1, g', fs ++ [(.slice A11 t c11', faceL f h t)], v54⟩ (by dsimp only; omega) ⟨by dsimp only; omega, ?_, ?_, ?_⟩ ⟨rfl, rfl, rfl, rfl, trivial⟩ (Pick.all _)
  ·intro x hx
   dsimp only
   rw [hWse x hx, hDse x hx, E6 hall]
  ·dsimp only
   rw [List.range_succ, List.filter_append, List.map_append, List.map_append, hD.heads]
   congr 1
   have : (faceL f h t).head? = some (h : Int) := by
    obtain ⟨t', rfl⟩ : ∃ t', t = t' + 1 := ⟨t - 1, by omega⟩
    simp [faceL, List.range_succ_eq_map, itr]
   simp [hlead, this]
  intro p hp
  rw [List.mem_append] at hp
  rcases hp with hp | hp
  ·exact hD.short p hp
  simp at hp; subst hp; dsimp only; omega
 refine DC.exit <| Ad <| Ad <| Ah <| Fin.then <| Zs ?_
 refine Zm ?_
 iterate 2 refine Za ?_
 refine Zx <| DC.ret ?_
 have hhn : h = n := by simp at c7; omega
 subst hhn
 refine Fin.own (M := slc v9 44 1 (rowsV fs) :: rowsC 3 fs) (fun w hw => hw.sub (.cons_cons _ (.cons _ (.cons _ (List.Sublist.refl _))))) ?_
 refine Fin.weak (E' := [(4, _), (5, _)]) ⟨rfl, rfl, trivial⟩ (Pick.all _) ?_
 refine AL (.inl rfl) rfl rfl rfl ?_
 exact ⟨v9, fs, f, rfl, hnx, ⟨Nat.le_refl _, fun x hx => ⟨fun _ => ⟨x, 0, hx, rfl⟩, fun _ => rfl⟩, hD.heads, hD.short⟩, rfl⟩
theorem KK {n : Nat} {w : World} (hn : n ≤ 1048576) :
  Calls Tryz.prog 117 #[.int .i64 n] w (Ret w [] fun r M => ∃ A c, r = .tuple #[.slice A n c, .int .i64 0] ∧ M = [slc (.slice A n c) 3 1 (ints (tab n (nat fun x => x)))]) := by
 refine Ao (K := []) (args := [_]) (L := []) Tryz.func117 rfl Tryz.ntmps117 rfl (Own.start _ _) ?_
 refine Zs ?_
 iterate 2 refine Za ?_
 refine Zx <| DC.seq <| Zs ?_
 refine Zm ?_
 refine Zc ?_
 refine Zm ?_
 refine Seq.split 8 rfl (fun k1_2 => ?_) (fun k1_2 => ?_)
 ·simp at k1_2
  omega
 refine Zm ?_
 refine Zo (Bs rfl rfl rfl) ?_
 refine Zg ?_
 refine Zx ?_
 refine Zd (fun c1 => ?_) fun c1 => ?_
 ·simp at c1
  omega
 refine DC.skip <| Fin.then <| Zs ?_
 refine Za ?_
 refine Zx <| DC.seq <| Zs ?_
 refine Za ?_
 refine Zx <| DC.block ?_
 refine DC.own (fun w hw => AX (t := 3) (m := 1) hw) ?_
 refine DC.loop (ι := Nat × Value) (fun j => j.1 ≤ n) (fun j => [(0, .int .i64 n), (4, j.2), (5, .int .i64 (j.1 : Nat))]) (fun j => [slc j.2 3 1 (ints (tab j.1 (nat fun x => x)))]) (fun j => n - j.1) (0, .slice none 0 0) (Nat.zero_le _) ⟨rfl, rfl, rfl, trivial⟩ (.cons 0 rfl .nil) ?_
 rintro ⟨i, v⟩ hi
 dsimp only at hi ⊢
 refine DC.seq <| Zs ?_
 iterate 2 refine Zm ?_
 refine Zc ?_
 refine Zx ?_
 refine Zd (fun c5 => ?_) fun c5 => ?_
 ·have hlt : i < n := by simpa using c5
  refine DC.skip <| Fin.then <| DC.seq <| DC.block <| DC.region ?_
  iterate 2 refine Zm ?_
  refine Zw (AP (cs := #[_]) rfl rfl TT AQ B0 rfl (by decide) (by decide) rfl rfl) fun g19 => ?_
  refine Seq.gen rfl rfl (AK (F := [blk g19 3 #[.int .i64 (i : Nat)]]) (vs := ints (tab i (nat fun x => x))) (k := 1) (news := [.int .i64 (i : Nat)]) rfl rfl rfl TT AQ DE B0 rfl (by decide) (by decide)
   (fun w hw => hw.pick (.cons 1 rfl (.cons 0 rfl .nil))) (.inl ⟨_, _, rfl, Ak rfl⟩) rfl (Bm [(i : Int)] []) (by simp; omega)) ?_
  rintro v20 _ rfl
  refine Za ?_
  refine Seq.nil <| Fin.inBlock <| Fin.then <| DC.region ?_
  refine Zm ?_
  refine Zp ?_
  refine Za ?_
  refine Seq.nil ?_
  refine Ag (i + 1, v20) (by dsimp only; omega) (by dsimp only; omega) ⟨rfl, rfl, rfl, trivial⟩ (.cons' 0 rfl (by dsimp only; unfold tab; rw [List.range_succ, List.map_append, AU]; rfl) .nil)
 refine DC.exit <| Ad <| Ad <| Ah <| Fin.then <| Zs ?_
 refine Zm ?_
 iterate 2 refine Za ?_
 refine Zx <| DC.ret ?_
 have hin : i = n := by simp at c5; omega
 subst hin
 refine Fin.weak (E' := [(2, _), (3, _)]) ⟨rfl, rfl, trivial⟩ (.cons 0 rfl .nil) ?_
 refine Fin.slcs (i := 0) rfl (by simp; omega) ?_
 rintro A c rfl _
 rw [tab_length]
 refine AL (.inl rfl) rfl rfl rfl ?_
 exact ⟨A, c, rfl, rfl⟩
/-! ### labels that fall till nothing changes -/
def sumN (n : Nat) (l : Nat → Nat) : Nat := ((List.range n).map l).sum
theorem Hk {l : Nat → Nat} {a x : Nat} (hx : x < l a) : ∀ {n : Nat}, a < n → sumN n (updN l a x) + 1 ≤ sumN n l
 | 0, h => by omega
 | n + 1, h => by
  unfold sumN
  rw [List.range_succ, List.map_append, List.map_append, List.sum_append, List.sum_append]
  simp only [List.map_cons, List.map_nil, List.sum_cons, List.sum_nil, Nat.add_zero]
  by_cases e : a = n
  ·subst e
   have : (List.range a).map (updN l a x) = (List.range a).map l := List.map_congr_left fun y hy => by
    have := TN.1 hy
    unfold updN; rw [if_neg (by omega)]
   rw [this]
   have : updN l a x a = x := by simp [updN]
   omega
  have ih := Hk (n := n) hx (by omega)
  unfold sumN at ih
  have : updN l a x n = l n := by unfold updN; rw [if_neg (by omega)]
  omega
structure LbI where
 l : Nat → Nat
 ch : Bool
structure LbJ where
 i : Nat
 l : Nat → Nat
 ch : Bool
/-- Labels lie below, in the same part. -/
def LbP (es : List Pr) (l : Nat → Nat) : Prop := ∀ x, l x ≤ x ∧ Conn es (l x) x
theorem RF (es : List Pr) : LbP es fun x => x := fun x => ⟨Nat.le_refl _, .refl _⟩
theorem Nm {es : List Pr} {l : Nat → Nat} {a b : Nat} (h : LbP es l) (hc : Conn es b a) (hlt : l b < l a) : LbP es (updN l a (l b)) := by
 intro x
 unfold updN
 split
 ·rename_i e; subst e
  exact ⟨by have := (h x).1; omega, (h b).2.trans hc⟩
 exact h x
theorem QO {es : List Pr} {l : Nat → Nat} (he : ∀ a b : Nat, ((a : Int), (b : Int)) ∈ es → l a = l b) {a b : Nat} (h : Conn es a b) : l a = l b := by
 induction h with
 | refl => rfl
 | edge u v h => exact he u v h
 | symm _ ih => exact ih.symm
 | trans _ _ ih1 ih2 => exact ih1.trans ih2
theorem Pp {es : List Pr} {l : Nat → Nat} (h : LbP es l) (he : ∀ a b : Nat, ((a : Int), (b : Int)) ∈ es → l a = l b) (v : Nat) : l v = v ↔ ∀ y, y < v → ¬ Conn es y v := by
 constructor
 ·intro hv y hy hc
  have := QO he hc
  have := (h y).1
  omega
 intro hno
 have h1 := (h v).1
 rcases Nat.lt_or_eq_of_le h1 with h2 | h2
 ·exact absurd (h v).2 (hno _ h2)
 exact h2
theorem Ov {n : Nat} {es : List Pr} (hV : Vld n es) {i : Nat} {e : Pr} (he : es[i]? = some e) : ∃ a b : Nat, e = ((a : Int), (b : Int)) ∧ a < b ∧ b < n := Dr hV (TD he)
structure OuI where
 v : Nat
 k : Nat
 o : Nat → Int
open Classical in
theorem Me {n : Nat} {es : List Pr} {va : Value} {w : World} (hg : PrV w va es) (hV : Vld n es) :
  Calls Tryz.prog 92 #[.agg #[.int .i64 n, va]] w (Ret w [] fun r M => ∃ v, r = .tuple #[v, .int .i64 (ncomp n es : Nat), .int .i64 0]) := by
 have hfew := hV.few
 have hnm := hV.hi
 have hg0 := hg
 obtain ⟨A, cap, rfl, hr, hlc, hcm, hle⟩ := hg
 refine Ao (K := []) (args := [_]) (L := []) Tryz.func92 rfl Tryz.ntmps92 rfl (Own.start _ _) ?_
 refine Zs ?_
 refine Zw (Ba rfl rfl rfl) fun g1 => ?_
 iterate 3 refine Za ?_
 refine Zx <| DC.seq <| Zs ?_
 refine Zu (Ay (vs := [_, _]) rfl rfl Bn Bg rfl (Ak rfl)) ?_
 refine Seq.rel0 rfl rfl (Ar MC rfl rfl rfl (fun w hw => B2 (hg0.keep0 hw))) ?_
 rintro _ ⟨bv, rfl, hbv⟩
 refine Zo (Bd rfl rfl) ?_
 refine Zx ?_
 refine Zd (fun c1 => ?_) fun c1 => ?_
 ·rw [hbv.2 hV] at c1
  simp at c1
 refine DC.skip <| Fin.then <| Zs ?_
 refine Zf BI ?_
 refine Zl AJ ?_
 refine Seq.rel rfl rfl (Ar Te rfl rfl rfl (fun w hw => KK (by omega))) ?_
 rintro _ _ ⟨As, cs, rfl, rfl⟩
 refine Zm ?_
 iterate 2 refine Ze ?_
 iterate 2 refine Za ?_
 refine Zx <| DC.seq ?_
 simp only [zs]
 refine MV 0 rfl ?_
 intro hAs
 rw [tab_length] at hAs
 refine DC.region ?_
 refine Za ?_
 refine Zx <| DC.seq <| DC.block ?_
 refine DC.loop (ι := LbI) (fun j => LbP es j.l ∧ (j.ch = false → ∀ (k : Nat) (a b : Nat), es[k]? = some ((a : Int), (b : Int)) → j.l a = j.l b)) (fun j => [(1, .pointer (some ⟨g1, 0, none⟩)), (5, .slice As n cs), (7, .bool j.ch)]) (fun j => [slc (.slice As n cs) 3 1 (ints (tab n (nat j.l))), blk g1 24 #[.int .i64 n, .slice A es.length cap]])
  (fun j => 2 * sumN n j.l + if j.ch = true then 1 else 0) ⟨fun x => x, true⟩ ⟨RF es, fun h => by cases h⟩ ⟨rfl, rfl, rfl, trivial⟩ (.cons 0 rfl (.cons 0 rfl .nil)) ?_
 rintro ⟨l, ch⟩ ⟨hP, hch⟩
 dsimp only at hP hch ⊢
 refine DC.seq <| Zs ?_
 refine Zm ?_
 refine Zx ?_
 refine Zd (fun c5 => ?_) fun c5 => ?_
 ·have hct : ch = true := c5
  subst hct
  refine DC.skip <| Fin.then <| DC.block <| Zs ?_
  refine Za ?_
  refine Zx <| Zs ?_
  refine Za ?_
  refine Zx <| DC.block ?_
  refine DC.loop (ι := LbJ) (fun j => j.i ≤ es.length ∧ LbP es j.l ∧ sumN n j.l + (if j.ch = true then 1 else 0) ≤ sumN n l ∧ (j.ch = false → j.l = l ∧ ∀ (k : Nat) (a b : Nat), k < j.i → es[k]? = some ((a : Int), (b : Int)) → l a = l b)) (fun j => [(1, .pointer (some ⟨g1, 0, none⟩)), (5, .slice As n cs), (7, .bool j.ch), (8, .int .i64 (j.i : Nat))]) (fun j => [slc (.slice As n cs) 3 1 (ints (tab n (nat j.l))), blk g1 24 #[.int .i64 n, .slice A es.length cap]])
   (fun j => es.length - j.i) ⟨0, l, false⟩ ⟨Nat.zero_le _, hP, by simp, fun _ => ⟨rfl, fun k a b h => absurd h (TS _)⟩⟩ ⟨rfl, rfl, rfl, rfl, trivial⟩ (.cons 0 rfl (.cons 0 rfl .nil)) ?_
  rintro ⟨i, l', ch⟩ ⟨hi, hP', hS, hsame⟩
  dsimp only at hi hP' hS hsame ⊢
  refine DC.seq <| Zs ?_
  refine Zm ?_
  refine Zf Be ?_
  refine Zl Bu ?_
  refine Zn TU ?_
  refine Zc ?_
  refine Zx ?_
  refine Zd (fun c8 => ?_) fun c8 => ?_
  ·have hlt : i < es.length := by simpa using c8
   obtain ⟨e, he⟩ : ∃ e, es[i]? = some e := ⟨_, Tz hlt⟩
   obtain ⟨ad, rfl, hU, hVe⟩ := hr.pair he
   obtain ⟨a, b, rfl, hab, hbn⟩ := Ov hV he
   dsimp only at hU hVe
   obtain ⟨ax, rfl⟩ := hAs (by omega)
   have hcon : Conn es a b := .edge a b (TD he)
   refine DC.skip <| Fin.then <| DC.seq <| DC.block <| DC.seq ?_
   refine AF (cl := [.q, .v, .q, .q, .q, .v, .q, .v, .q, .q, .q, .v, .q, .q]) (A := [0, 1, 0, 7, 15, 31, 0, 64, 0, 448, 960, 1984, 63, 8191]) (order := [0, 1, 2, 3, 4, 5, 6, 7, 8, 9, 10, 11, 12, 13]) [] mixed (by kernel_rfl) (fun w hw => hw.pick .nil) ?_
   refine Yf Be ?_
   refine Yl Bu ?_
   refine Ym ?_
   refine Yo rfl (AM (ad' := ad.add (i * 2)) rfl rfl rfl TU AY (by omega) (by omega) rfl) ?_
   refine Yo rfl (Bq (ad' := ad.add (i * 2)) rfl rfl Bb (by simp [Addr.add])) ?_
   refine Am rfl rfl rfl rfl (Ai rfl rfl AJ (Aw hU)) ?_
   refine Yf Be ?_
   refine Yl Bu ?_
   refine Ym ?_
   refine Yo rfl (AM (ad' := ad.add (i * 2)) rfl rfl rfl TU AY (by omega) (by omega) rfl) ?_
   refine Yo rfl (Bq (ad' := ad.add (i * 2 + 1)) rfl rfl Bk (B6 _ _ _ (by decide))) ?_
   refine Am rfl rfl rfl rfl (Ai rfl rfl AJ (Aw hVe)) ?_
   refine Yo rfl (AR rfl rfl) ?_
   refine Yo rfl (AR rfl rfl) ?_
   refine Flow.end rfl ?_
   simp only [zq, zr]
   refine Fin.then ?_
   refine DC.cut (ι := LbI) (fun j => LbP es j.l ∧ sumN n j.l + (if j.ch = true then 1 else 0) ≤ sumN n l ∧ (j.ch = false → j.l = l ∧ (∀ (k : Nat) (a b : Nat), k < i → es[k]? = some ((a : Int), (b : Int)) → l a = l b) ∧ ¬ l b < l a)) (fun j => [(1, .pointer (some ⟨g1, 0, none⟩)), (5, .slice (some ax) n cs), (7, .bool j.ch), (8, .int .i64 (i : Nat)), (9, .int .i64 (a : Nat)), (10, .int .i64 (b : Nat))]) (fun j => [slc (.slice (some ax) n cs) 3 1 (ints (tab n (nat j.l))), blk g1 24 #[.int .i64 n, .slice (some ad) es.length cap]]) ?first13 ?rest13
   case first13 =>
    refine DC.seq ?_
    refine AF (cl := [.q, .q, .q, .v, .q, .q, .q, .v, .q]) (A := [0, 0, 3, 7, 0, 0, 48, 112, 255]) (order := [0, 1, 2, 3, 4, 5, 6, 7, 8]) [] mixed (by kernel_rfl) (fun w hw => hw.pick .nil) ?_
    iterate 2 refine Ym ?_
    refine Yo rfl (Aj (ad' := ax.add a) rfl rfl rfl TT AQ (by omega) (by omega) (by rw [TC])) ?_
    refine Am rfl rfl rfl rfl (Ai rfl rfl AJ ((fun w hw => BB (i := 0) rfl w hw a _ (BL (Bw (nat l') (by omega)))))) ?_
    iterate 2 refine Ym ?_
    refine Yo rfl (Aj (ad' := ax.add b) rfl rfl rfl TT AQ (by omega) (by omega) (by rw [TC])) ?_
    refine Am rfl rfl rfl rfl (Ai rfl rfl AJ ((fun w hw => BB (i := 0) rfl w hw b _ (BL (Bw (nat l') (by omega)))))) ?_
    refine Yo rfl (Bs rfl rfl rfl) ?_
    refine Flow.end rfl ?_
    simp only [zq, zr]
    refine Fin.then ?_
    refine Zd (fun c11 => ?_) fun c11 => ?_
    ·have hba : l' b < l' a := by simp [nat] at c11; omega
     refine Zs ?_
     iterate 4 refine Zm ?_
     refine Zo (Aj (ad' := ax.add b) rfl rfl rfl TT AQ (by omega) (by omega) (by rw [TC])) ?_
     refine Zu (Ai rfl rfl AJ ((fun w hw => BB (i := 0) rfl w hw b _ (BL (Bw (nat l') (by omega)))))) ?_
     refine Zo (Aj (ad' := ax.add a) rfl rfl rfl TT AQ (by omega) (by omega) (by rw [TC])) ?_
     refine Zy (L9 (i := 0) rfl rfl rfl rfl AQ (by simp; omega)) ?_
     refine Seq.nil ?_
     simp only [List.set_cons_zero]
     rw [Db, show nat l' b = ((l' b : Nat) : Int) from rfl, G2]
     refine Fin.then <| DC.region ?_
     refine Za ?_
     refine Seq.nil ?_
     refine AG ⟨updN l' a (l' b), true⟩ ⟨Nm hP' hcon.symm hba, ?_, fun h => by cases h⟩ ⟨rfl, rfl, rfl, rfl, rfl, rfl, trivial⟩ (.cons 0 rfl (.cons 0 rfl .nil))
     have hS1 := Hk hba (show a < n by omega)
     have : (if true = true then 1 else 0) = 1 := rfl
     dsimp only
     rw [this]
     have : sumN n l' ≤ sumN n l := by omega
     omega
    refine DC.skip ?_
    have hba : ¬ l' b < l' a := by simp [nat] at c11; omega
    refine AG ⟨l', ch⟩ ⟨hP', hS, fun h => ⟨(hsame h).1, (hsame h).2, by rw [← (hsame h).1]; exact hba⟩⟩ ⟨rfl, rfl, rfl, rfl, rfl, rfl, trivial⟩ (.cons 0 rfl (.cons 0 rfl .nil))
   rintro ⟨l2, ch2⟩ ⟨hP2, hS2, hs2⟩
   dsimp only at hP2 hS2 hs2 ⊢
   refine DC.seq ?_
   refine AF (cl := [.q, .q, .q, .v, .q, .q, .q, .v, .q]) (A := [0, 0, 3, 7, 0, 0, 48, 112, 255]) (order := [0, 1, 2, 3, 4, 5, 6, 7, 8]) [] mixed (by kernel_rfl) (fun w hw => hw.pick .nil) ?_
   iterate 2 refine Ym ?_
   refine Yo rfl (Aj (ad' := ax.add b) rfl rfl rfl TT AQ (by omega) (by omega) (by rw [TC])) ?_
   refine Am rfl rfl rfl rfl (Ai rfl rfl AJ ((fun w hw => BB (i := 0) rfl w hw b _ (BL (Bw (nat l2) (by omega)))))) ?_
   iterate 2 refine Ym ?_
   refine Yo rfl (Aj (ad' := ax.add a) rfl rfl rfl TT AQ (by omega) (by omega) (by rw [TC])) ?_
   refine Am rfl rfl rfl rfl (Ai rfl rfl AJ ((fun w hw => BB (i := 0) rfl w hw a _ (BL (Bw (nat l2) (by omega)))))) ?_
   refine Yo rfl (Bs rfl rfl rfl) ?_
   refine Flow.end rfl ?_
   simp only [zq, zr]
   refine Fin.then ?_
   refine Zd (fun c14 => ?_) fun c14 => ?_
   ·have hba : l2 a < l2 b := by simp [nat] at c14; omega
    refine Zs ?_
    iterate 4 refine Zm ?_
    refine Zo (Aj (ad' := ax.add a) rfl rfl rfl TT AQ (by omega) (by omega) (by rw [TC])) ?_
    refine Zu (Ai rfl rfl AJ ((fun w hw => BB (i := 0) rfl w hw a _ (BL (Bw (nat l2) (by omega)))))) ?_
    refine Zo (Aj (ad' := ax.add b) rfl rfl rfl TT AQ (by omega) (by omega) (by rw [TC])) ?_
    refine Zy (L9 (i := 0) rfl rfl rfl rfl AQ (by simp; omega)) ?_
    refine Seq.nil ?_
    simp only [List.set_cons_zero]
    rw [Db, show nat l2 a = ((l2 a : Nat) : Int) from rfl, G2]
    refine Fin.then <| DC.region ?_
    refine Za ?_
    refine Seq.nil <| Fin.inBlock <| Fin.then <| DC.region ?_
    refine Zm ?_
    refine Zp ?_
    refine Za ?_
    refine Seq.nil ?_
    refine Ag ⟨i + 1, updN l2 b (l2 a), true⟩ (by dsimp only; omega) ⟨by dsimp only; omega, Nm hP2 hcon hba, ?_, fun h => by cases h⟩ ⟨rfl, rfl, rfl, rfl, trivial⟩ (.cons 0 rfl (.cons 0 rfl .nil))
    have hS1 := Hk hba hbn
    have : (if true = true then 1 else 0) = 1 := rfl
    dsimp only
    rw [this]
    have : sumN n l2 ≤ sumN n l := by omega
    omega
   refine DC.skip <| Fin.inBlock <| Fin.then <| DC.region ?_
   refine Zm ?_
   refine Zp ?_
   refine Za ?_
   refine Seq.nil ?_
   have hba : ¬ l2 a < l2 b := by simp [nat] at c14; omega
   refine Ag ⟨i + 1, l2, ch2⟩ (by dsimp only; omega) ⟨by dsimp only; omega, hP2, hS2, fun h => ?_⟩ ⟨rfl, rfl, rfl, rfl, trivial⟩ (.cons 0 rfl (.cons 0 rfl .nil))
   obtain ⟨h1, h2, h3⟩ := hs2 h
   subst h1
   refine ⟨rfl, fun k a' b' hk hke => ?_⟩
   rcases TE.1 hk with hk | rfl
   ·exact h2 k a' b' hk hke
   rw [he] at hke
   have h4 := (Prod.mk.inj (Option.some.inj hke))
   have : a = a' := by omega
   have : b = b' := by omega
   subst a' b'
   omega
  refine DC.exit <| Ad <| Ad <| Ah <| Fin.inBlock ?_
  have hil : i = es.length := by simp at c8; omega
  subst hil
  refine Ag ⟨l', ch⟩ ?_ ⟨hP', fun h k a b hk => ?_⟩ ⟨rfl, rfl, rfl, trivial⟩ (.cons 0 rfl (.cons 0 rfl .nil))
  ·dsimp only
   by_cases h : ch = true
   ·rw [if_pos h] at hS ⊢; simp; omega
   rw [if_neg h] at hS ⊢; simp; omega
  obtain ⟨h1, h2⟩ := hsame h
  dsimp only at h1 ⊢
  rw [h1]
  exact h2 k a b (TA.1 hk).1 hk
 refine DC.exit <| Ad <| Ad <| Ah <| Fin.then <| DC.seq ?_
 have hcf : ch = false := by simpa using c5
 have hall : ∀ a b : Nat, ((a : Int), (b : Int)) ∈ es → l a = l b := fun a b h => by
  obtain ⟨k, hk⟩ := TF.1 h
  exact hch hcf k a b hk
 refine DC.region ?_
 refine Zf BI ?_
 refine Zl AJ ?_
 refine Zw (Ca (k := n) rfl rfl rfl TT AQ DE B0 rfl (by omega) (by omega) (Ch _)) fun g77 => ?_
 refine Za ?_
 refine Zx <| Zs ?_
 refine Za ?_
 refine Zx <| DC.seq <| Zs ?_
 refine Za ?_
 refine Zx <| DC.block ?_
 refine DC.loop (ι := OuI) (fun j => j.v ≤ n ∧ j.k = (List.range j.v).countP (fun v => decide (l v = v))) (fun j => [(1, .pointer (some ⟨g1, 0, none⟩)), (5, .slice As n cs), (11, .slice (some ⟨g77, 0, none⟩) n n), (12, .int .i64 (j.k : Nat)), (13, .int .i64 (j.v : Nat))])
  (fun j => [blk g77 3 (ints (tab n j.o)).toArray, slc (.slice As n cs) 3 1 (ints (tab n (nat l))), blk g1 24 #[.int .i64 n, .slice A es.length cap]]) (fun j => n - j.v) ⟨0, 0, fun _ => 0⟩ ⟨Nat.zero_le _, rfl⟩ ⟨rfl, rfl, rfl, rfl, rfl, trivial⟩ (.cons 0 rfl (.cons 0 rfl (.cons 0 rfl .nil))) ?_
 rintro ⟨x, k, o⟩ ⟨hx, hk⟩
 dsimp only at hx hk ⊢
 have hkx : k ≤ x := by
  have := List.countP_le_length (p := fun v => decide (l v = v)) (l := List.range x)
  rw [← hk] at this; simpa using this
 have hks : (List.range (x + 1)).countP (fun v => decide (l v = v)) = k + if l x = x then 1 else 0 := by
  rw [List.range_succ, List.countP_append, ← hk]
  by_cases h : l x = x <;> simp [h]
 refine DC.seq <| Zs ?_
 refine Zm ?_
 refine Zf BI ?_
 refine Zl AJ ?_
 refine Zc ?_
 refine Zx ?_
 refine Zd (fun c20 => ?_) fun c20 => ?_
 ·have hxn : x < n := by simpa using c20
  obtain ⟨ax, rfl⟩ := hAs (by omega)
  have hlx := (hP x).1
  refine DC.skip <| Fin.then <| DC.seq <| DC.block <| Zs ?_
  iterate 2 refine Zm ?_
  refine Zo (Aj (ad' := ax.add x) rfl rfl rfl TT AQ (by omega) (by omega) (by rw [TC])) ?_
  refine Zu (Ai rfl rfl AJ ((fun w hw => BB (i := 1) rfl w hw x _ (BL (Bw (nat l) (by omega)))))) ?_
  refine Zm ?_
  refine Zo (AN rfl rfl rfl) ?_
  refine Zx ?_
  refine Zd (fun c22 => ?_) fun c22 => ?_
  ·have hle2 : l x = x := Int.ofNat.inj (of_decide_eq_true c22)
   refine Zs ?_
   iterate 3 refine Zm ?_
   refine Zo (Aj (ad' := ⟨g77, x, none⟩) rfl rfl rfl TT AQ (by omega) (by omega) (by rw [AC]; rfl)) ?_
   refine Zy (AE (cs' := (ints (tab n (upd o x k))).toArray) rfl rfl rfl AQ rfl (by simp; omega) BR) ?_
   refine Zx <| DC.region ?_
   refine Zm ?_
   refine Zp ?_
   refine Za ?_
   refine Seq.nil <| Fin.inBlock <| Fin.then <| DC.region ?_
   refine Zm ?_
   refine Zp ?_
   refine Za ?_
   refine Seq.nil ?_
   refine Ag ⟨x + 1, k + 1, upd o x k⟩ (by dsimp only; omega) ⟨by dsimp only; omega, by dsimp only; rw [hks, if_pos hle2]⟩ ⟨rfl, rfl, rfl, rfl, rfl, trivial⟩ (.cons 0 rfl (.cons 0 rfl (.cons 0 rfl .nil)))
  have hle2 : ¬ l x = x := fun h => of_decide_eq_false c22 (congrArg Int.ofNat h)
  refine DC.region ?_
  iterate 5 refine Zm ?_
  refine Zo (Aj (ad' := ax.add x) rfl rfl rfl TT AQ (by omega) (by omega) (by rw [TC])) ?_
  refine Zu (Ai rfl rfl AJ ((fun w hw => BB (i := 1) rfl w hw x _ (BL (Bw (nat l) (by omega)))))) ?_
  refine Zo (Aj (ad' := ⟨g77, l x, none⟩) rfl rfl rfl TT AQ (by simp [nat]) (by simp [nat]; omega) (by rw [AC]; rfl)) ?_
  refine Zu (Ai rfl rfl AJ (Bi (Bt (by omega)))) ?_
  refine Zo (Aj (ad' := ⟨g77, x, none⟩) rfl rfl rfl TT AQ (by omega) (by omega) (by rw [AC]; rfl)) ?_
  refine Zy (AE (cs' := (ints (tab n (upd o x (o (l x))))).toArray) rfl rfl rfl AQ rfl (by simp; omega) BR) ?_
  refine Seq.nil <| Fin.inBlock <| Fin.then <| DC.region ?_
  refine Zm ?_
  refine Zp ?_
  refine Za ?_
  refine Seq.nil ?_
  refine Ag ⟨x + 1, k, upd o x (o (l x))⟩ (by dsimp only; omega) ⟨by dsimp only; omega, by dsimp only; rw [hks, if_neg hle2]; rfl⟩ ⟨rfl, rfl, rfl, rfl, rfl, trivial⟩ (.cons 0 rfl (.cons 0 rfl (.cons 0 rfl .nil)))
 refine DC.exit <| Ad <| Ad <| Ah <| Fin.then <| Zs ?_
 iterate 2 refine Zm ?_
 iterate 3 refine Za ?_
 refine Zx <| DC.ret ?_
 refine Fin.weak (E' := [(2, _), (3, _), (4, _)]) ⟨rfl, rfl, rfl, trivial⟩ .nil ?_
 refine Bo (.inl rfl) rfl rfl rfl rfl ?_
 have hxn : x = n := by simp at c20; omega
 subst hxn
 have : k = ncomp x es := by
  rw [hk]; unfold ncomp
  refine List.countP_congr fun v _ => ?_
  rw [decide_eq_true_iff, decide_eq_true_iff]
  exact Pp hP hall v
 rw [this]
 exact ⟨_, rfl⟩
structure IsI where
 i : Nat
 m : Nat → Bool
theorem Gf {n : Nat} {es : List Pr} {va : Value} {w : World} (hg : PrV w va es) (hV : Vld n es) :
  Calls Tryz.prog 93 #[.agg #[.int .i64 n, va]] w (Ret w [] fun r M => r = .tuple #[.int .i64 (isoN n es : Nat), .int .i64 0]) := by
 have hfew := hV.few
 have hnm := hV.hi
 have hg0 := hg
 obtain ⟨A, cap, rfl, hr, hlc, hcm, hle⟩ := hg
 refine Ao (K := []) (args := [_]) (L := []) Tryz.func93 rfl Tryz.ntmps93 rfl (Own.start _ _) ?_
 refine Zs ?_
 refine Zw (Ba rfl rfl rfl) fun g1 => ?_
 iterate 2 refine Za ?_
 refine Zx <| DC.seq <| Zs ?_
 refine Zu (Ay (vs := [_, _]) rfl rfl Bn Bg rfl (Ak rfl)) ?_
 refine Seq.rel0 rfl rfl (Ar MC rfl rfl rfl (fun w hw => B2 (hg0.keep0 hw))) ?_
 rintro _ ⟨bv, rfl, hbv⟩
 refine Zo (Bd rfl rfl) ?_
 refine Zx ?_
 refine Zd (fun c1 => ?_) fun c1 => ?_
 ·rw [hbv.2 hV] at c1
  simp at c1
 refine DC.skip <| Fin.then <| Zs ?_
 refine Zf BI ?_
 refine Zl AJ ?_
 refine Zw (Ca (k := n) rfl rfl rfl TZ Ft R2 Rv rfl (by omega) (by omega) (DK _)) fun g13 => ?_
 refine Za ?_
 refine Zx <| DC.seq <| Zs ?_
 refine Za ?_
 refine Zx <| DC.block ?_
 refine DC.loop (ι := IsI) (fun j => j.i ≤ es.length ∧ ∀ x : Nat, x < n → (j.m x = true ↔ ∃ (k : Nat) (e : Pr), k < j.i ∧ es[k]? = some e ∧ (e.1 = x ∨ e.2 = x))) (fun j => [(1, .pointer (some ⟨g1, 0, none⟩)), (4, .slice (some ⟨g13, 0, none⟩) n n), (5, .int .i64 (j.i : Nat))])
  (fun j => [blk g13 4 (bls n j.m).toArray, blk g1 24 #[.int .i64 n, .slice A es.length cap]]) (fun j => es.length - j.i) ⟨0, fun _ => false⟩ ⟨Nat.zero_le _, fun x _ => ⟨fun h => by simp at h, fun ⟨k, e, h, _⟩ => absurd h (TS _)⟩⟩ ⟨rfl, rfl, rfl, trivial⟩ (.cons 0 rfl (.cons 0 rfl .nil)) ?_
 rintro ⟨i, m⟩ ⟨hi, hm⟩
 dsimp only at hi hm ⊢
 refine DC.seq <| Zs ?_
 refine Zm ?_
 refine Zf Be ?_
 refine Zl Bu ?_
 refine Zn TU ?_
 refine Zc ?_
 refine Zx ?_
 refine Zd (fun c5 => ?_) fun c5 => ?_
 ·have hlt : i < es.length := by simpa using c5
  obtain ⟨e, he⟩ : ∃ e, es[i]? = some e := ⟨_, Tz hlt⟩
  obtain ⟨ad, rfl, hU, hVe⟩ := hr.pair he
  obtain ⟨a, b, rfl, hab, hbn⟩ := Dr hV (TD he)
  dsimp only at hU hVe
  refine DC.skip <| Fin.then <| DC.seq <| DC.block <| Zs ?_
  refine Zm ?_
  refine Zf Be ?_
  refine Zl Bu ?_
  refine Zm ?_
  refine Zo (AM (ad' := ad.add (i * 2)) rfl rfl rfl TU AY (by omega) (by omega) rfl) ?_
  refine Zo (Bq (ad' := ad.add (i * 2)) rfl rfl Bb (by simp [Addr.add])) ?_
  refine Zu (Ai rfl rfl AJ (Aw hU)) ?_
  refine Zo (Aj (ad' := ⟨g13, a, none⟩) rfl rfl rfl TZ Ft (by omega) (by omega) (by rw [AC]; rfl)) ?_
  refine Zy (AE (cs' := (bls n (updB m a true)).toArray) rfl rfl rfl Ft rfl (by simp; omega) (Eh m true)) ?_
  refine Zx <| DC.region ?_
  refine Zm ?_
  refine Zf Be ?_
  refine Zl Bu ?_
  refine Zm ?_
  refine Zo (AM (ad' := ad.add (i * 2)) rfl rfl rfl TU AY (by omega) (by omega) rfl) ?_
  refine Zo (Bq (ad' := ad.add (i * 2 + 1)) rfl rfl Bk (B6 _ _ _ (by decide))) ?_
  refine Zu (Ai rfl rfl AJ (Aw hVe)) ?_
  refine Zo (Aj (ad' := ⟨g13, b, none⟩) rfl rfl rfl TZ Ft (by omega) (by omega) (by rw [AC]; rfl)) ?_
  refine Zy (AE (cs' := (bls n (updB (updB m a true) b true)).toArray) rfl rfl rfl Ft rfl (by simp; omega) (Eh _ true)) ?_
  refine Seq.nil <| Fin.inBlock <| Fin.then <| DC.region ?_
  refine Zm ?_
  refine Zp ?_
  refine Za ?_
  refine Seq.nil ?_
  refine Ag ⟨i + 1, updB (updB m a true) b true⟩ (by dsimp only; omega) ⟨by dsimp only; omega, fun x hx => ?_⟩ ⟨rfl, rfl, rfl, trivial⟩ (.cons 0 rfl (.cons 0 rfl .nil))
  dsimp only
  have hnew : (updB (updB m a true) b true) x = true ↔ m x = true ∨ x = a ∨ x = b := by
   unfold updB
   by_cases h1 : x = b
   ·simp [h1]
   by_cases h2 : x = a <;> simp [h1, h2]
  rw [hnew, hm x hx]
  constructor
  ·rintro (⟨k, e, hk, hke, h⟩ | h | h)
   ·exact ⟨k, e, by omega, hke, h⟩
   ·exact ⟨i, _, by omega, he, .inl (by simp only; omega)⟩
   exact ⟨i, _, by omega, he, .inr (by simp only; omega)⟩
  rintro ⟨k, e, hk, hke, h⟩
  rcases TE.1 hk with hk | rfl
  ·exact .inl ⟨k, e, hk, hke, h⟩
  rw [he] at hke; cases hke
  simp only at h
  rcases h with h | h
  ·exact .inr (.inl (by omega))
  exact .inr (.inr (by omega))
 refine DC.exit <| Ad <| Ad <| Ah <| Fin.then <| DC.seq ?_
 have hil : i = es.length := by simp at c5; omega
 subst hil
 have hm2 : ∀ x : Nat, x < n → (m x = false ↔ cnt es x = 0) := fun x hx => by
  have h1 := Ic hV x
  have h2 := hm x hx
  have h3 : (∃ (k : Nat) (e : Pr), k < es.length ∧ es[k]? = some e ∧ (e.1 = x ∨ e.2 = x)) ↔ ∃ e, e ∈ es ∧ (e.1 = x ∨ e.2 = x) := by
   constructor
   ·rintro ⟨k, e, _, hk, h⟩; exact ⟨e, TD hk, h⟩
   rintro ⟨e, hk, h⟩
   obtain ⟨k, hk⟩ := TF.1 hk
   exact ⟨k, e, (TA.1 hk).1, hk, h⟩
  rw [h3, ← h1] at h2
  rw [← Bool.not_eq_true, h2]
  exact Decidable.not_not
 refine DC.region ?_
 refine Za ?_
 refine Zx <| DC.seq <| Zs ?_
 refine Za ?_
 refine Zx <| DC.block ?_
 refine DC.loop (ι := Nat) (fun x => x ≤ n) (fun x => [(1, .pointer (some ⟨g1, 0, none⟩)), (4, .slice (some ⟨g13, 0, none⟩) n n), (6, .int .i64 (isoN x es : Nat)), (7, .int .i64 (x : Nat))])
  (fun _ => [blk g13 4 (bls n m).toArray, blk g1 24 #[.int .i64 n, .slice A es.length cap]]) (fun x => n - x) 0 (Nat.zero_le _) ⟨rfl, rfl, rfl, rfl, trivial⟩ (.cons 0 rfl (.cons 0 rfl .nil)) ?_
 intro x hx
 have hix : isoN x es ≤ x := by
  have := List.countP_le_length (p := fun v => decide (cnt es v = 0)) (l := List.range x)
  simpa [isoN] using this
 have his : isoN (x + 1) es = isoN x es + if cnt es x = 0 then 1 else 0 := by
  unfold isoN
  rw [List.range_succ, List.countP_append]
  by_cases h : cnt es x = 0 <;> simp [h]
 refine DC.seq <| Zs ?_
 refine Zm ?_
 refine Zf BI ?_
 refine Zl AJ ?_
 refine Zc ?_
 refine Zx ?_
 refine Zd (fun c11 => ?_) fun c11 => ?_
 ·have hxn : x < n := by simpa using c11
  refine DC.skip <| Fin.then <| DC.seq <| DC.block <| Zs ?_
  iterate 2 refine Zm ?_
  refine Zo (Aj (ad' := ⟨g13, x, none⟩) rfl rfl rfl TZ Ft (by omega) (by omega) (by rw [AC]; rfl)) ?_
  refine Zu (Ai rfl rfl II (Bi (Ei m hxn))) ?_
  refine Zo (Bd rfl rfl) ?_
  refine Zx ?_
  refine Zd (fun c13 => ?_) fun c13 => ?_
  ·refine DC.region ?_
   refine Zm ?_
   refine Zp ?_
   refine Za ?_
   refine Seq.nil <| Fin.inBlock <| Fin.then <| DC.region ?_
   refine Zm ?_
   refine Zp ?_
   refine Za ?_
   refine Seq.nil ?_
   have h0 : cnt es x = 0 := (hm2 x hxn).1 (by simpa using c13)
   refine Ag (x + 1) (by omega) (by omega) ⟨rfl, rfl, ?_, rfl, trivial⟩ (.cons 0 rfl (.cons 0 rfl .nil))
   rw [his, if_pos h0]; rfl
  refine DC.skip <| Fin.inBlock <| Fin.then <| DC.region ?_
  refine Zm ?_
  refine Zp ?_
  refine Za ?_
  refine Seq.nil ?_
  have h0 : ¬ cnt es x = 0 := fun h => by have := (hm2 x hxn).2 h; rw [this] at c13; simp at c13
  refine Ag (x + 1) (by omega) (by omega) ⟨rfl, rfl, ?_, rfl, trivial⟩ (.cons 0 rfl (.cons 0 rfl .nil))
  rw [his, if_neg h0]; rfl
 refine DC.exit <| Ad <| Ad <| Ah <| Fin.then <| Zs ?_
 refine Zm ?_
 iterate 2 refine Za ?_
 refine Zx <| DC.ret ?_
 refine Fin.weak (E' := [(2, _), (3, _)]) ⟨rfl, rfl, trivial⟩ .nil ?_
 refine AL (.inl rfl) rfl rfl rfl ?_
 have hxn : x = n := by simp at c11; omega
 subst hxn
 rfl
open Classical
/-! ### the genus of the whole is even, in pure terms -/
theorem Po {p : Nat → Prop} : ∀ v, p v → ∃ y, p y ∧ ∀ z, z < y → ¬ p z := by
 intro v
 induction v using Nat.strongRecOn with
 | _ v ih =>
  intro hv
  by_cases h : ∃ z, z < v ∧ p z
  ·obtain ⟨z, hz, hp⟩ := h; exact ih z hz hp
  exact ⟨v, hv, fun z hz hp => h ⟨z, hz, hp⟩⟩
theorem RH (n : Nat) (es : List Pr) : ∃ l : Nat → Nat, (∀ x, l x ≤ x) ∧ Lab n es (nat l) := by
 have h : ∀ v, ∃ y, Conn es y v ∧ ∀ z, z < y → ¬ Conn es z v := fun v => Po (p := fun y => Conn es y v) v (.refl v)
 refine ⟨fun v => (h v).choose, fun x => ?_, fun a b _ _ => ?_⟩
 ·have h1 := (h x).choose_spec
  rcases Nat.lt_or_ge x (h x).choose with h2 | h2
  ·exact absurd (.refl x) (h1.2 x h2)
  exact h2
 have ha := (h a).choose_spec
 have hb := (h b).choose_spec
 constructor
 ·intro e
  have e : (h a).choose = (h b).choose := Int.ofNat.inj e
  rw [e] at ha
  exact ha.1.symm.trans hb.1
 intro hc
 have h1 := ha.1.trans hc
 have h2 := hb.1.trans hc.symm
 show ((h a).choose : Int) = (h b).choose
 rcases Nat.lt_trichotomy (h a).choose (h b).choose with h3 | h3 | h3
 ·exact absurd h1 (hb.2 _ h3)
 ·rw [h3]
 exact absurd h2 (ha.2 _ h3)
theorem Mw {n : Nat} {es : List Pr} {rs : List (List Int)} {fn : Nat → Int} (hok : RotL n es rs) (hnx : NxOk rs rs.length fn) : ∃ q, genus2 n es fn = 2 * q := by
 obtain ⟨l, hle, hL⟩ := RH n es
 have hV := hok.1
 obtain ⟨ks, hks⟩ : ∃ ks : List Int, ks = ((List.range n).filter fun (x : Nat) => decide (cnV (nat l) n x ≠ 0)).map fun (x : Nat) => (x : Int) := ⟨_, rfl⟩
 have hnd : ks.Nodup := by
  rw [hks]
  exact List.Pairwise.map _ (fun a b h e => h (Int.ofNat.inj e)) (List.Pairwise.filter _ List.nodup_range)
 have hk : ∀ x, x ∈ ks ↔ cnV (nat l) n x ≠ 0 := by
  intro x
  rw [hks, List.mem_map]
  constructor
  ·rintro ⟨y, hy, rfl⟩
   rw [List.mem_filter] at hy
   simpa using hy.2
  intro h
  obtain ⟨j, hj, hx⟩ := Kb h
  have hx' : x = ((l j : Nat) : Int) := hx.symm
  subst hx'
  exact ⟨l j, by rw [List.mem_filter, TN]; exact ⟨by have := hle j; omega, by simpa using h⟩, rfl⟩
 have hhin : ∀ h, h ∈ headsOf (es.length * 2) fn → headU es h < n ∧ cnE (nat l) es es.length (nat l (headU es h)) ≠ 0 := by
  intro h hh
  obtain ⟨x, hx, rfl⟩ := List.mem_map.1 hh
  have hx2 : x < es.length * 2 := by
   have := (List.mem_filter.1 hx).1
   exact TN.1 this
  obtain ⟨e, he⟩ : ∃ e, es[x / 2]? = some e := ⟨_, Tz (by omega)⟩
  have hem := TD he
  have := hV.ok _ e he
  have h1 := this.lo; have h2 := this.lt; have h3 := this.hi
  rw [HV he]
  refine ⟨by omega, fun h0 => Ie h0 hem rfl⟩
 have htot := HW hV hL hnd hk hhin
 have hev : ∀ x, x ∈ ks → ∃ q, gval (cnV (nat l) n x) (cnE (nat l) es es.length x) (cnF (nat l) es (headsOf (es.length * 2) fn) (headsOf (es.length * 2) fn).length x) = 2 * q := by
  intro x _
  unfold gval
  by_cases h0 : cnE (nat l) es es.length x = 0
  ·exact ⟨0, by simp [h0]⟩
  rw [if_pos h0]
  have h1 := IV hok hnx hL h0
  exact ⟨(2 - (cnV (nat l) n x : Int) + cnE (nat l) es es.length x - cnF (nat l) es (headsOf (es.length * 2) fn) (headsOf (es.length * 2) fn).length x) / 2, by omega⟩
 have hsum : ∀ (ks : List Int), (∀ x, x ∈ ks → ∃ q, gval (cnV (nat l) n x) (cnE (nat l) es es.length x) (cnF (nat l) es (headsOf (es.length * 2) fn) (headsOf (es.length * 2) fn).length x) = 2 * q) →
   ∃ q, gsum (cnV (nat l) n) (cnE (nat l) es es.length) (cnF (nat l) es (headsOf (es.length * 2) fn) (headsOf (es.length * 2) fn).length) ks = 2 * q := by
  intro ks
  induction ks with
  | nil => intro _; exact ⟨0, rfl⟩
  | cons a r ih =>
   intro h
   obtain ⟨q1, e1⟩ := h a (TI ..)
   obtain ⟨q2, e2⟩ := ih fun x hx => h x (TM _ hx)
   refine ⟨q1 + q2, ?_⟩
   unfold gsum at e2 ⊢
   rw [List.map_cons, List.sum_cons, e1, e2]; omega
 obtain ⟨q, hq⟩ := hsum ks hev
 refine ⟨q, ?_⟩
 rw [htot] at hq
 unfold genus2 facesN
 exact hq
theorem Lu {n : Nat} {f : Nat → Int} {fs : RL} {v : Value} (hD : FaD n f ⟨n, fun _ => true, fs, v⟩) : fs.length = (headsOf n f).length := by
 have h1 := congrArg List.length hD.heads
 simp only [List.length_map] at h1
 unfold headsOf
 rw [List.length_map, h1]
theorem OI {P : Program} {w0 : World} {K : List Nat} {n : Nat} {ds : List Deferred} {E : Env} {L : List Chunk} {v : Value} {Q : Exit → Act → World → Prop} {c : Code} {t : Nat} {vs : List Value} (i : Nat) (hi : L[i]? = some (slc v t 1 vs)) (h : (∃ A c, v = .slice A vs.length c) → DC P w0 K n ds Q c E L) : DC P w0 K n ds Q c E L := by
 intro a w ha hw
 obtain ⟨A, len, cap, e, hl, _⟩ := BW (hw.perm (AO hi).symm)
 rw [Nat.mul_one] at hl
 exact h ⟨A, cap, by rw [hl]; exact e⟩ a w ha hw
theorem Hy {n : Nat} {es : List Pr} {rs : List (List Int)} {va v : Value} {w : World} (hg : PrV w va es) (hl : LsV w v rs) (hs : ∀ l, l ∈ rs → l.length ≤ 1000000000) (hok : RotL n es rs) :
  Calls Tryz.prog 51 #[.agg #[.int .i64 n, va], v] w (Ret w [] fun r M => ∃ q f, r = .tuple #[.int .i64 q, .int .i64 0] ∧ NxOk rs rs.length f ∧ genus2 n es f = 2 * q) := by
 obtain ⟨A, cap, hva, _⟩ := id hg
 subst hva
 obtain ⟨B, capb, hvb, _⟩ := id hl
 subst hvb
 have hV := hok.1
 have hfew := hV.few
 have hnm := hV.hi
 refine Ao (K := []) (args := [_, _]) (L := []) Tryz.func51 rfl Tryz.ntmps51 rfl (Own.start _ _) ?_
 refine Zs ?_
 refine Zw (Ba rfl rfl rfl) fun g2 => ?_
 iterate 2 refine Za ?_
 refine Zx <| Zs ?_
 refine Zu (Ay (vs := [_, _]) rfl rfl Bn Bg rfl (Ak rfl)) ?_
 refine Zm ?_
 refine Seq.rel rfl rfl (Ar en91 rfl rfl rfl (fun w hw => KN (hg.keep0 hw) (hl.keep0 hw) hs hok)) ?_
 rintro _ _ ⟨vf, fs, f, rfl, hnx, hD, rfl⟩
 refine Zm ?_
 iterate 2 refine Ze ?_
 iterate 2 refine Za ?_
 refine Zx <| DC.seq <| Zs ?_
 refine Zm ?_
 refine Zo (BK rfl rfl rfl) ?_
 refine Zx ?_
 refine Zd (fun c2 => ?_) fun c2 => ?_
 ·simp at c2
 refine DC.skip <| Fin.then <| DC.seq ?_
 simp only [zs]
 refine OI 0 rfl ?_
 rintro ⟨Af, cf, rfl⟩
 rw [rowsV_length]
 have hfc := Lu hD
 obtain ⟨q, hq⟩ := Mw hok hnx
 have hq' : 2 * (ncomp n es : Int) - isoN n es - n + es.length - fs.length = 2 * q := by
  rw [← hq]; unfold genus2 facesN; rw [hfc]
 have hc1 : ncomp n es ≤ n := by
  have := List.countP_le_length (p := fun v => decide (∀ y, y < v → ¬ Conn es y v)) (l := List.range n)
  simpa [ncomp] using this
 have hc2 : isoN n es ≤ n := by
  have := List.countP_le_length (p := fun v => decide (cnt es v = 0)) (l := List.range n)
  simpa [isoN] using this
 have hc3 : fs.length ≤ es.length * 2 := by
  rw [hfc]; unfold headsOf
  rw [List.length_map]
  have := List.length_filter_le (fun x => decide (Lead (phi f) x)) (List.range (es.length * 2))
  simpa using this
 refine DC.own (M := [blk g2 24 #[.int .i64 n, .slice A es.length cap]]) (fun w hw => hw.sub (.cons _ (List.sublist_append_right _ _))) ?_
 refine DC.region ?_
 refine Zu (Ay (vs := [_, _]) rfl rfl Bn Bg rfl (Ak rfl)) ?_
 refine Seq.rel rfl rfl (Ar en92 rfl rfl rfl (fun w hw => Me (hg.keep0 hw) hV)) ?_
 rintro _ M4 ⟨vc, rfl⟩
 refine Seq.own (M := [blk g2 24 #[.int .i64 n, .slice A es.length cap]]) (fun w hw => hw.sub (List.sublist_append_right _ _)) ?_
 refine Zm ?_
 iterate 3 refine Ze ?_
 iterate 3 refine Za ?_
 refine Zx <| Zs ?_
 refine Zu (Ay (vs := [_, _]) rfl rfl Bn Bg rfl (Ak rfl)) ?_
 refine Seq.rel rfl rfl (Ar en93 rfl rfl rfl (fun w hw => Gf (hg.keep0 hw) hV)) ?_
 rintro _ M5 rfl
 refine Seq.own (M := [blk g2 24 #[.int .i64 n, .slice A es.length cap]]) (fun w hw => hw.sub (List.sublist_append_right _ _)) ?_
 refine Zm ?_
 iterate 2 refine Ze ?_
 iterate 2 refine Za ?_
 refine Zx <| Zs ?_
 refine Zm ?_
 refine Zo (Cl rfl rfl rfl (by omega)) ?_
 refine Zm ?_
 refine Zo (Bv rfl rfl rfl (by omega)) ?_
 refine Zf BI ?_
 refine Zl AJ ?_
 refine Zo (Bv rfl rfl rfl (by omega)) ?_
 refine Zf Be ?_
 refine Zl Bu ?_
 refine Zn TU ?_
 refine Zp ?_
 refine Zm ?_
 refine Zn TW ?_
 refine Zo (Bv rfl rfl rfl (by omega)) ?_
 refine Zo (O9 (q := q) rfl rfl rfl hq' (by omega)) ?_
 iterate 2 refine Za ?_
 refine Zx <| DC.ret ?_
 refine Fin.weak (E' := [(4, _), (5, _)]) ⟨rfl, rfl, trivial⟩ .nil ?_
 refine AL (.inl rfl) rfl rfl rfl ?_
 exact ⟨q, f, rfl, hnx, hq⟩
theorem Iw {n : Nat} {es : List Pr} {rs : List (List Int)} {va v : Value} {w : World} (hg : PrV w va es) (hl : LsV w v rs) (hs : ∀ l, l ∈ rs → l.length ≤ 1000000000) (hok : RotL n es rs) :
  Calls Tryz.prog 26 #[.agg #[.int .i64 n, va], v] w (Ret w [] fun r M => ∃ b f, r = .bool b ∧ NxOk rs rs.length f ∧ (b = true ↔ genus2 n es f = 0)) := by
 obtain ⟨A, cap, hva, _⟩ := id hg
 subst hva
 obtain ⟨B, capb, hvb, _⟩ := id hl
 subst hvb
 refine Ao (K := []) (args := [_, _]) (L := []) Tryz.func26 rfl Tryz.ntmps26 rfl (Own.start _ _) ?_
 refine Zs ?_
 refine Zw (Ba rfl rfl rfl) fun g2 => ?_
 refine Za ?_
 refine Zx <| Zs ?_
 refine Zu (Ay (vs := [_, _]) rfl rfl Bn Bg rfl (Ak rfl)) ?_
 refine Zm ?_
 refine Seq.rel rfl rfl (Ar en51 rfl rfl rfl (fun w hw => Hy (hg.keep0 hw) (hl.keep0 hw) hs hok)) ?_
 rintro _ M1 ⟨q, f, rfl, hnx, hq⟩
 refine Seq.own (M := [blk g2 24 #[.int .i64 n, .slice A es.length cap]]) (fun w hw => hw.sub (List.sublist_append_right _ _)) ?_
 refine Zm ?_
 iterate 2 refine Ze ?_
 iterate 2 refine Za ?_
 refine Zx <| Zs ?_
 refine Zm ?_
 refine Zo (AN rfl rfl rfl) ?_
 refine Zm ?_
 refine Seq.split 15 rfl (fun k2_2 => ?_) (fun k2_2 => ?_)
 ·refine Zm ?_
  refine Zo (AN rfl rfl rfl) ?_
  refine Zt ?_
  refine Za ?_
  refine Zx <| DC.ret ?_
  refine Fin.weak (E' := [(4, _)]) ⟨rfl, trivial⟩ .nil ?_
  refine Zh ?_
  refine ⟨_, f, rfl, hnx, ?_⟩
  rw [decide_eq_true_iff, hq]; omega
 simp at k2_2
end Go.Fl

namespace Go.Fl
open Go Go.Proofs
theorem EB {a b v : Int} {w : World} : Calls Tryz.prog 163 #[.agg #[.int .i64 a, .int .i64 b], .int .i64 v] w (Ret w [] fun r M => M = [] ∧ r = .int .i64 (if a = v then b else a)) := by
 refine Ao (K := []) (args := [_, _]) (L := []) Tryz.func163 rfl Tryz.ntmps163 rfl (Own.start _ _) ?_
 refine Zs ?_
 refine Zw (Ba rfl rfl rfl) fun g2 => ?_
 refine Za ?_
 refine Zx <| DC.seq <| Zs ?_
 refine Zf Bb ?_
 refine Zl AJ ?_
 refine Zm ?_
 refine Zo (AN rfl rfl rfl) ?_
 refine Zx ?_
 refine Zd (fun c1 => ?_) fun c1 => ?_
 ·refine Zs ?_
  refine Zf Bk ?_
  refine Zl AJ ?_
  refine Za ?_
  refine Zx <| DC.ret <| Aa ?_
  refine Fin.weak (E' := [(4, _)]) ⟨rfl, trivial⟩ .nil ?_
  refine Zh ?_
  exact ⟨rfl, by rw [if_pos (by simpa using c1)]⟩
 refine DC.skip <| Fin.then <| Zs ?_
 refine Zf Bb ?_
 refine Zl AJ ?_
 refine Za ?_
 refine Zx <| DC.ret ?_
 refine Fin.weak (E' := [(4, _)]) ⟨rfl, trivial⟩ .nil ?_
 refine Zh ?_
 exact ⟨rfl, by rw [if_neg (by simpa using c1)]⟩
/-- The ends of a half-edge, by its edge. -/
theorem DL {es : List Pr} {h : Int} (hh : VH es h) : ∃ e, es[(h / 2).toNat]? = some e ∧ ((h % 2 = 0 ∧ fromV es h = e.1 ∧ toV es h = e.2) ∨ (h % 2 = 1 ∧ fromV es h = e.2 ∧ toV es h = e.1)) := by
 obtain ⟨e, he, hf⟩ := Dq hh.1 hh.2
 obtain ⟨e', he', hf'⟩ := Dq hh.tw.1 hh.tw.2
 have e2 : (tw h / 2).toNat = (h / 2).toNat := by unfold tw; have := hh.1; split <;> omega
 rw [e2, he] at he'; cases he'
 refine ⟨e, he, ?_⟩
 rw [CL hh] at hf'
 by_cases hp : h % 2 = 0
 ·rw [if_pos hp] at hf
  have h3 : ¬ tw h % 2 = 0 := by unfold tw; rw [if_pos hp]; omega
  rw [if_neg h3] at hf'
  exact .inl ⟨hp, hf, hf'⟩
 rw [if_neg hp] at hf
 have h3 : tw h % 2 = 0 := by unfold tw; rw [if_neg hp]; omega
 rw [if_pos h3] at hf'
 exact .inr ⟨by omega, hf, hf'⟩
theorem QS {N : Int} {es : List Pr} (hV : Vld N es) {i : Nat} {e : Pr} (he : es[i]? = some e) {v : Int} (hv : e.1 = v ∨ e.2 = v) : ∃ y, VH es y ∧ fromV es y = v ∧ (y / 2).toNat = i := by
 have hi := (TA.1 he).1
 rcases hv with hv | hv
 ·refine ⟨2 * (i : Int), ⟨by omega, by omega⟩, ?_, by omega⟩
  obtain ⟨e', he', hf⟩ := Dq (es := es) (h := 2 * (i : Int)) (by omega) (by omega)
  rw [show (2 * (i : Int) / 2).toNat = i by omega, he] at he'; cases he'
  rw [hf, if_pos (by omega)]; exact hv
 refine ⟨2 * (i : Int) + 1, ⟨by omega, by omega⟩, ?_, by omega⟩
 obtain ⟨e', he', hf⟩ := Dq (es := es) (h := 2 * (i : Int) + 1) (by omega) (by omega)
 rw [show ((2 * (i : Int) + 1) / 2).toNat = i by omega, he] at he'; cases he'
 rw [hf, if_neg (by omega)]; exact hv
theorem Ph {N : Int} {es : List Pr} (hV : Vld N es) {h : Int} (hh : VH es h) (hd : degV es (toV es h) = 2) : nxtH es h / 2 ≠ h / 2 := by
 obtain ⟨h1, h2, h3, _, _⟩ := Cs hV hh hd
 intro e
 have : nxtH es h = h ∨ nxtH es h = tw h := by
  have := hh.1; have := h1.1
  unfold tw; split <;> omega
 rcases this with h4 | h4
 ·rw [h4] at h2
  obtain ⟨e', he', ha⟩ := DL hh
  have := (hV.ok _ _ he').lt
  rcases ha with ⟨_, a1, a2⟩ | ⟨_, a1, a2⟩ <;> omega
 exact h3 h4
theorem KL {N h : Int} {es : List Pr} {va : Value} {w : World} (hg : PrV w va es) (hV : Vld N es) (hh : VH es h) (hd : degV es (toV es h) = 2) :
  Calls Tryz.prog 164 #[.agg #[.int .i64 N, va], .int .i64 (toV es h), .int .i64 (h / 2)] w (Ret w [] fun r M => M = [] ∧ r = .int .i64 (nxtH es h / 2)) := by
 have hfew := hV.few
 obtain ⟨A, cap, rfl, hr, hlc, hcm, hle⟩ := hg
 obtain ⟨h1, h2, h3, _, h5⟩ := Cs hV hh hd
 have hne := Ph hV hh hd
 obtain ⟨en, hen, han⟩ := DL h1
 refine Ao (K := []) (args := [_, _, _]) (L := []) Tryz.func164 rfl Tryz.ntmps164 rfl (Own.start _ _) ?_
 refine Zs ?_
 refine Zw (Ba rfl rfl rfl) fun g3 => ?_
 refine Za ?_
 refine Zx <| DC.seq <| Zs ?_
 refine Za ?_
 refine Zx <| DC.block ?_
 refine DC.loop (ι := Nat) (fun j => j ≤ es.length ∧ ∀ (k : Nat) e, k < j → es[k]? = some e → ¬ ((k : Int) ≠ h / 2 ∧ (e.1 = toV es h ∨ e.2 = toV es h))) (fun j => [(1, .int .i64 (toV es h)), (2, .int .i64 (h / 2)), (3, .pointer (some ⟨g3, 0, none⟩)), (7, .int .i64 (j : Nat))])
  (fun _ => [blk g3 24 #[.int .i64 N, .slice A es.length cap]]) (fun j => es.length - j) 0 ⟨Nat.zero_le _, fun k e h => absurd h (TS _)⟩ ⟨rfl, rfl, rfl, rfl, trivial⟩ (.cons 0 rfl .nil) ?_
 rintro i ⟨hi, hno⟩
 refine DC.seq <| Zs ?_
 refine Zm ?_
 refine Zf Be ?_
 refine Zl Bu ?_
 refine Zn TU ?_
 refine Zc ?_
 refine Zx ?_
 refine Zd (fun c2 => ?_) fun c2 => ?_
 ·have hlt : i < es.length := by simpa using c2
  obtain ⟨x, hx⟩ : ∃ x, es[i]? = some x := ⟨_, Tz hlt⟩
  obtain ⟨ad, rfl, hU, hVe⟩ := hr.pair hx
  have good : (i : Int) ≠ h / 2 → (x.1 = toV es h ∨ x.2 = toV es h) → (i : Int) = nxtH es h / 2 := by
   intro q1 q2
   obtain ⟨y, hy, hyf, hyi⟩ := QS hV hx q2
   have hy0 := hy.1
   rcases h5 y ((Bl hV).2 ⟨hy.1, hy.2, hyf⟩) with rfl | rfl
   ·omega
   exfalso; apply q1
   have := hh.1
   unfold tw at hyi
   split at hyi <;> omega
  refine DC.skip <| Fin.then <| DC.seq <| DC.block <| Zs ?_
  iterate 2 refine Zm ?_
  refine Zo (BK rfl rfl rfl) ?_
  refine Zm ?_
  refine Seq.split 18 rfl (fun k4_3 => ?_) (fun k4_3 => ?_)
  ·refine Zf Be ?_
   refine Zl Bu ?_
   refine Zm ?_
   refine Zo (AM (ad' := ad.add (i * 2)) rfl rfl rfl TU AY (by omega) (by omega) rfl) ?_
   refine Zo (Bq (ad' := ad.add (i * 2)) rfl rfl Bb (by simp [Addr.add])) ?_
   refine Zu (Ai rfl rfl AJ (Aw hU)) ?_
   refine Zm ?_
   refine Zo (AN rfl rfl rfl) ?_
   refine Zm ?_
   refine Seq.split 27 rfl (fun k4_12 => ?_) (fun k4_12 => ?_)
   ·refine Zk ?_
    iterate 7 refine Zk ?_
    iterate 2 refine Zt ?_
    refine Zx ?_
    refine AI rfl ?_
    refine Zs ?_
    refine Zm ?_
    refine Za ?_
    refine Zx <| DC.ret <| Ae <| Aa <| Aa <| Ae <| Aa ?_
    refine Fin.weak (E' := [(6, _)]) ⟨rfl, trivial⟩ .nil ?_
    refine Zh ?_
    refine ⟨rfl, ?_⟩
    rw [good (by simpa using k4_3) (.inl (by simpa using k4_12))]
   refine Zf Be ?_
   refine Zl Bu ?_
   refine Zm ?_
   refine Zo (AM (ad' := ad.add (i * 2)) rfl rfl rfl TU AY (by omega) (by omega) rfl) ?_
   refine Zo (Bq (ad' := ad.add (i * 2 + 1)) rfl rfl Bk (B6 _ _ _ (by decide))) ?_
   refine Zu (Ai rfl rfl AJ (Aw hVe)) ?_
   refine Zm ?_
   refine Zo (AN rfl rfl rfl) ?_
   refine Zg ?_
   refine Zt ?_
   refine Zx ?_
   refine Zd (fun c4 => ?_) fun c4 => ?_
   ·refine Zs ?_
    refine Zm ?_
    refine Za ?_
    refine Zx <| DC.ret <| Ae <| Aa <| Aa <| Ae <| Aa ?_
    refine Fin.weak (E' := [(6, _)]) ⟨rfl, trivial⟩ .nil ?_
    refine Zh ?_
    refine ⟨rfl, ?_⟩
    rw [good (by simpa using k4_3) (.inr (by simpa using c4))]
   refine DC.skip <| Fin.inBlock <| Fin.then <| DC.region ?_
   refine Zm ?_
   refine Zp ?_
   refine Za ?_
   refine Seq.nil ?_
   refine Ag (i + 1) (by omega) ⟨by omega, fun k e hk he hc => ?_⟩ ⟨rfl, rfl, rfl, rfl, trivial⟩ (.cons 0 rfl .nil)
   by_cases hki : k = i
   ·subst hki; rw [hx] at he; cases he
    first
    | (simp at k4_3; exact hc.1 k4_3)
    | (simp at k4_12 c4; exact hc.2.elim k4_12 c4)
   exact hno k e (by omega) he hc
  iterate 18 refine Zk ?_
  refine Zg ?_
  refine Zx ?_
  refine AT rfl ?_
  refine DC.skip <| Fin.inBlock <| Fin.then <| DC.region ?_
  refine Zm ?_
  refine Zp ?_
  refine Za ?_
  refine Seq.nil ?_
  refine Ag (i + 1) (by omega) ⟨by omega, fun k e hk he hc => ?_⟩ ⟨rfl, rfl, rfl, rfl, trivial⟩ (.cons 0 rfl .nil)
  by_cases hki : k = i
  ·subst hki; rw [hx] at he; cases he
   first
   | (simp at k4_3; exact hc.1 k4_3)
   | (simp at k4_12 c4; exact hc.2.elim k4_12 c4)
  exact hno k e (by omega) he hc
 refine DC.exit <| Ad <| Ad <| Ah <| Fin.then <| Zs ?_
 refine Za ?_
 refine Zx <| DC.ret ?_
 refine Fin.weak (E' := [(6, _)]) ⟨rfl, trivial⟩ .nil ?_
 refine Zh ?_
 exfalso
 have hie : i = es.length := by simp at c2; omega
 subst hie
 refine hno _ en (TA.1 hen).1 hen ⟨?_, ?_⟩
 ·have := h1.1; rw [Int.toNat_of_nonneg (by omega)]; exact hne
 rcases han with ⟨_, a1, _⟩ | ⟨_, a1, _⟩
 ·exact .inl (by omega)
 exact .inr (by omega)
/-- The vertices that one comes by on the way that h begins. -/
def goL (es : List Pr) (h : Int) (t : Nat) : List Int := fromV es h :: (wayL es h t).map (toV es)
theorem PB (es : List Pr) (h : Int) (t : Nat) : goL es h (t + 1) = goL es h t ++ [toV es (nxtH es (wI es h t))] := by
 unfold goL; rw [Gb, List.map_append, List.cons_append]; rfl
theorem D8 (es : List Pr) (h : Int) (t : Nat) : (goL es h t).length = t + 2 := by simp [goL, CF]
theorem HZ {n : Nat} {es : List Pr} (hV : Vld n es) {h : Int} (hh : VH es h) : 0 ≤ fromV es h ∧ fromV es h < n := by
 obtain ⟨e, he, ha⟩ := DL hh
 have := hV.ok _ _ he
 have h1 := this.lo; have h2 := this.lt; have h3 := this.hi
 rcases ha with ⟨_, a, _⟩ | ⟨_, a, _⟩ <;> omega
theorem Kv {n : Nat} {es : List Pr} (hV : Vld n es) {h : Int} (hh : VH es h) : 0 ≤ toV es h ∧ toV es h < n := by
 rw [← CL hh]; exact HZ hV hh.tw
structure GoI where
 t : Nat
 v : Value
theorem GD {n : Nat} {h : Int} {es : List Pr} {va vd : Value} {w : World} (hg : PrV w va es) (hd : SlV w vd (tab n (cnt es))) (hV : Vld n es) (hh : VH es h) :
  Calls Tryz.prog 130 #[.agg #[.int .i64 n, va], vd, .int .i64 (fromV es h), .int .i64 (h / 2)] w (Ret w [] fun r M => M = [slc r 3 1 (ints (goL es h (wayT es h)))]) := by
 have hfew := hV.few
 have hg0 := hg
 obtain ⟨A, cap, rfl, hr, hlc, hcm, hle⟩ := hg
 obtain ⟨B, capd, rfl, hrd, _, _, _⟩ := hd
 rw [tab_length]
 obtain ⟨e0, he0, ha0⟩ := DL hh
 obtain ⟨ad, rfl, hU, hVe⟩ := hr.pair he0
 have h20 : 0 ≤ h / 2 := by have := hh.1; omega
 have h2l : h / 2 < es.length := by have := hh.2; omega
 have eh2 : (((h / 2).toNat : Nat) : Int) = h / 2 := Int.toNat_of_nonneg h20
 have hot : ∀ {k : Int} {e : Pr}, ((k % 2 = 0 ∧ fromV es k = e.1 ∧ toV es k = e.2) ∨ (k % 2 = 1 ∧ fromV es k = e.2 ∧ toV es k = e.1)) → e.1 ≠ e.2 → (if e.1 = fromV es k then e.2 else e.1) = toV es k := by
  intro k e ha hne
  rcases ha with ⟨_, a1, a2⟩ | ⟨_, a1, a2⟩
  ·rw [if_pos a1.symm, a2]
  rw [if_neg (fun q => hne (q.trans a1)), a2]
 have hne0 : e0.1 ≠ e0.2 := by have := (hV.ok _ _ he0).lt; omega
 refine Ao (K := []) (args := [_, _, _, _]) (L := []) Tryz.func130 rfl Tryz.ntmps130 rfl (Own.start _ _) ?_
 refine Zs ?_
 refine Zw (Ba rfl rfl rfl) fun g4 => ?_
 refine Za ?_
 refine Zx <| Zs ?_
 refine Zf Be ?_
 refine Zl Bu ?_
 refine Zm ?_
 refine Zo (AM (ad' := ad.add ((h / 2).toNat * 2)) rfl rfl rfl TU AY h20 (by omega) rfl) ?_
 refine Zu (Ay (vs := [_, _]) rfl rfl B3 AY rfl (Cv hU hVe (by simp))) ?_
 refine Zm ?_
 refine Seq.rel0 rfl rfl (Ar Rg rfl rfl rfl (fun w hw => EB)) ?_
 rintro _ rfl
 rw [hot ha0 hne0]
 refine Za ?_
 refine Zx <| Zs ?_
 iterate 2 refine Zm ?_
 refine Zw (AP (cs := #[_, _]) rfl rfl TT AQ B0 rfl (by decide) (by decide) rfl rfl) fun g22 => ?_
 refine Za ?_
 refine Zx <| Zs ?_
 refine Zm ?_
 refine Za ?_
 refine Zx <| DC.seq <| DC.block ?_
 refine DC.own (M := slc (.slice (some ⟨g22, 0, none⟩) 2 2) 3 1 (ints (goL es h 0)) :: [blk g4 24 #[.int .i64 n, .slice (some ad) es.length cap]]) (fun w hw => BZ (m := 1) (len := 2) (cap := 2) (cs := #[.int .i64 (fromV es h), .int .i64 (toV es h)]) (by simp [goL, wayL]) (by decide) (by omega) (by omega) rfl rfl hw) ?_
 refine DC.loop (ι := GoI) (fun j => Way es h j.t) (fun j => [(1, .slice B n capd), (3, .int .i64 (h / 2)), (4, .pointer (some ⟨g4, 0, none⟩)), (9, .int .i64 (toV es (wI es h j.t))), (10, j.v), (11, .int .i64 (wI es h j.t / 2))])
  (fun j => slc j.v 3 1 (ints (goL es h j.t)) :: [blk g4 24 #[.int .i64 n, .slice (some ad) es.length cap]]) (fun j => es.length * 2 - j.t) ⟨0, .slice (some ⟨g22, 0, none⟩) 2 2⟩ ⟨hh, fun i hi => absurd hi (TS _)⟩ ⟨rfl, rfl, rfl, rfl, rfl, rfl, trivial⟩ (.cons 0 rfl (.cons 0 rfl .nil)) ?_
 rintro ⟨t, v⟩ hW
 dsimp only at hW ⊢
 have hht := hW.all hV t (Nat.le_refl _)
 have htl := hW.lt hV
 obtain ⟨ht0, ht1⟩ := Kv hV hht
 have hcn : (ints (tab n (cnt es)))[(toV es (wI es h t)).toNat]? = some (.int .i64 (degV es (toV es (wI es h t)) : Nat)) := by
  rw [BL (Bw (cnt es) (by omega))]
  unfold cnt degV; rw [Int.toNat_of_nonneg ht0]
 obtain ⟨adB, rfl, hcB⟩ := hrd _ _ hcn
 refine DC.seq <| Zs ?_
 iterate 2 refine Zm ?_
 refine Zo (Aj (ad' := adB.add (toV es (wI es h t)).toNat) rfl rfl rfl TT AQ ht0 ht1 rfl) ?_
 refine Zu (Ai rfl rfl AJ (Aw hcB)) ?_
 refine Zo (AN rfl rfl rfl) ?_
 refine Zx ?_
 refine Zd (fun c4 => ?_) fun c4 => ?_
 ·have hdeg : degV es (toV es (wI es h t)) = 2 := by simp at c4; omega
  obtain ⟨hn1, hn2, hn3, _, hn5⟩ := Cs hV hht hdeg
  obtain ⟨en, hen, han⟩ := DL hn1
  refine DC.skip <| Fin.then <| DC.block <| Zs ?_
  refine Zu (Ay (vs := [_, _]) rfl rfl Bn Bg rfl (Ak rfl)) ?_
  iterate 2 refine Zm ?_
  refine Seq.rel0 rfl rfl (Ar SW rfl rfl rfl (fun w hw => KL (hg0.keep0 hw) hV hht hdeg)) ?_
  rintro _ rfl
  refine Za ?_
  refine Zx <| DC.seq <| Zs ?_
  iterate 2 refine Zm ?_
  refine Zo (AN rfl rfl rfl) ?_
  refine Zx ?_
  refine Zd (fun c6 => ?_) fun c6 => ?_
  ·refine Zs ?_
   refine Zm ?_
   refine Za ?_
   refine Zx <| DC.ret <| Aa <| Ae <| Aa <| Ae <| Aa ?_
   refine Fin.weak (E' := [(8, _)]) ⟨rfl, trivial⟩ (.cons 0 rfl .nil) ?_
   refine Zh ?_
   have hst : Stops es h t := ⟨hW, fun hc => by
    have hW' : Way es h (t + 1) := ⟨hh, fun i hi => by
     rcases TE.1 hi with hi | rfl
     ·exact hW.cont i hi
     exact hc⟩
    have e1 : nxtH es (wI es h t) / 2 = h / 2 := by simpa using c6
    have q1 : wI es h (t + 1) ≠ tw (wI es h 0) := hW'.ne_tw hV (Nat.le_refl _) (Nat.zero_le _)
    have q2 : wI es h 0 ≠ wI es h (t + 1) := hW'.ne hV 0 (t + 1) (by omega) (Nat.le_refl _)
    have q3 : wI es h (t + 1) = h ∨ wI es h (t + 1) = tw h := by
     have a1 : wI es h (t + 1) / 2 = h / 2 := e1
     have a2 := hn1.1
     have a3 := hh.1
     have a4 : 0 ≤ wI es h (t + 1) := a2
     unfold tw; split <;> omega
    rcases q3 with q3 | q3
    ·exact q2 q3.symm
    exact q1 q3⟩
   rw [GS hst]
  have hne2 : nxtH es (wI es h t) / 2 ≠ h / 2 := by simpa using c6
  have hcont : contH es (fromV es h) (wI es h t) := ⟨hdeg, fun hto => by
   rcases hn5 h ((Bl hV).2 ⟨hh.1, hh.2, hto.symm⟩) with q | q
   ·exact hne2 (by rw [← q])
   exact hW.ne_tw hV (a := 0) (b := t) (Nat.zero_le _) (Nat.le_refl _) q⟩
  have hW' : Way es h (t + 1) := ⟨hh, fun i hi => by
   rcases TE.1 hi with hi | rfl
   ·exact hW.cont i hi
   exact hcont⟩
  have hn20 : 0 ≤ nxtH es (wI es h t) / 2 := by have := hn1.1; omega
  have hn2l : nxtH es (wI es h t) / 2 < es.length := by have := hn1.2; omega
  obtain ⟨ad', e', hUn, hVn⟩ := hr.pair hen
  cases e'
  have hnen : en.1 ≠ en.2 := by have := (hV.ok _ _ hen).lt; omega
  refine DC.skip <| Fin.then <| Zs ?_
  refine Zf Be ?_
  refine Zl Bu ?_
  refine Zm ?_
  refine Zo (AM (ad' := ad.add ((nxtH es (wI es h t) / 2).toNat * 2)) rfl rfl rfl TU AY hn20 (by omega) rfl) ?_
  refine Zu (Ay (vs := [_, _]) rfl rfl B3 AY rfl (Cv hUn hVn (by simp))) ?_
  refine Zm ?_
  refine Seq.rel0 rfl rfl (Ar Rg rfl rfl rfl (fun w hw => EB)) ?_
  rintro _ rfl
  rw [← hn2, hot han hnen]
  refine Za ?_
  refine Zx <| Zs ?_
  iterate 2 refine Zm ?_
  refine Zw (AP (cs := #[_]) rfl rfl TT AQ B0 rfl (by decide) (by decide) rfl rfl) fun g46 => ?_
  refine Seq.gen rfl rfl (AK (F := [blk g46 3 #[.int .i64 (toV es (nxtH es (wI es h t)))], blk g4 24 #[.int .i64 n, .slice (some ad) es.length cap]]) (vs := ints (goL es h t)) (k := 1) (news := [.int .i64 (toV es (nxtH es (wI es h t)))]) rfl rfl rfl TT AQ DE B0 rfl (by decide) (by decide)
   (fun w hw => hw.pick (.cons 1 rfl (.cons 0 rfl (.cons 0 rfl .nil)))) (.inl ⟨_, _, rfl, Ak rfl⟩) rfl (Bm [toV es (nxtH es (wI es h t))] []) (by rw [ints_length, D8]; omega)) ?_
  rintro v47 _ rfl
  refine Za ?_
  refine Zx <| DC.region ?_
  refine Zm ?_
  refine Za ?_
  refine Seq.nil <| Fin.inBlock ?_
  refine Ag ⟨t + 1, v47⟩ (by dsimp only; omega) hW' ⟨rfl, rfl, rfl, rfl, rfl, rfl, trivial⟩ (.cons' 0 rfl (by dsimp only; rw [PB, AU]; rfl) (.cons 1 rfl .nil))
 refine DC.exit <| Ad <| Ad <| Ah <| Fin.then <| Zs ?_
 refine Zm ?_
 refine Za ?_
 refine Zx <| DC.ret ?_
 refine Fin.weak (E' := [(8, _)]) ⟨rfl, trivial⟩ (.cons 0 rfl .nil) ?_
 refine Zh ?_
 have hst : Stops es h t := ⟨hW, fun hc => by have := hc.1; simp at c4; omega⟩
 rw [GS hst]
theorem Cg {l : List Int} {v : Value} {w : World} (hl : SlV w v l) (hn : l.length ≤ 1000000000) :
  Calls Tryz.prog 104 #[v] w (Ret w [] fun r M => M = [slc r 3 1 (ints l.reverse)]) := by
 obtain ⟨A, cap, rfl, hr, hlc, hcm, hle⟩ := hl
 refine Ao (K := []) (args := [_]) (L := []) Tryz.func104 rfl Tryz.ntmps104 rfl (Own.start _ _) ?_
 refine Zs ?_
 refine Za ?_
 refine Zx <| Zs ?_
 refine Za ?_
 refine Zx <| DC.seq <| Zs ?_
 refine Zm ?_
 refine Zn TT ?_
 refine Zo (Bv rfl rfl rfl (by omega)) ?_
 refine Za ?_
 refine Zx <| DC.block ?_
 refine DC.own (fun w hw => AX (t := 3) (m := 1) hw) ?_
 refine DC.loop (ι := GoI) (fun j => j.t ≤ l.length) (fun j => [(0, .slice A l.length cap), (3, j.v), (4, .int .i64 ((l.length : Int) - 1 - j.t))]) (fun j => [slc j.v 3 1 (ints (l.reverse.take j.t))]) (fun j => l.length - j.t) ⟨0, .slice none 0 0⟩ (Nat.zero_le _) ⟨rfl, rfl, by simp [Br], trivial⟩ (.cons 0 rfl .nil) ?_
 rintro ⟨t, v⟩ ht
 dsimp only at ht ⊢
 refine DC.seq <| Zs ?_
 refine Zm ?_
 refine Zo (Cc rfl rfl rfl) ?_
 refine Zx ?_
 refine Zd (fun c3 => ?_) fun c3 => ?_
 ·have hlt : t < l.length := by simp at c3; omega
  obtain ⟨x, hx⟩ : ∃ x, l[l.length - 1 - t]? = some x := ⟨_, Tz (by omega)⟩
  obtain ⟨ad, rfl, hc⟩ := hr.int hx
  have htk : l.reverse.take (t + 1) = l.reverse.take t ++ [x] := by
   rw [List.take_add_one, List.getElem?_reverse (by omega), hx]; rfl
  refine DC.skip <| Fin.then <| DC.seq <| DC.block <| DC.region ?_
  iterate 3 refine Zm ?_
  refine Zo (Aj (ad' := ad.add (l.length - 1 - t)) rfl rfl rfl TT AQ (by omega) (by omega) (by congr 1; omega)) ?_
  refine Zu (Ai rfl rfl AJ (Aw hc)) ?_
  refine Zw (AP (cs := #[_]) rfl rfl TT AQ B0 rfl (by decide) (by decide) rfl rfl) fun g17 => ?_
  refine Seq.gen rfl rfl (AK (F := [blk g17 3 #[.int .i64 x]]) (vs := ints (l.reverse.take t)) (k := 1) (news := [.int .i64 x]) rfl rfl rfl TT AQ DE B0 rfl (by decide) (by decide)
   (fun w hw => hw.pick (.cons 1 rfl (.cons 0 rfl .nil))) (.inl ⟨_, _, rfl, Ak rfl⟩) rfl (Bm [x] []) (by rw [ints_length, List.length_take, List.length_reverse]; omega)) ?_
  rintro v18 _ rfl
  refine Za ?_
  refine Seq.nil <| Fin.inBlock <| Fin.then <| DC.region ?_
  refine Zm ?_
  refine Zo (Bv rfl rfl rfl (by omega)) ?_
  refine Za ?_
  refine Seq.nil ?_
  refine Ag ⟨t + 1, v18⟩ (by dsimp only; omega) (by dsimp only; omega) ⟨rfl, rfl, ?_, trivial⟩ (.cons' 0 rfl (by dsimp only; rw [htk, AU]; rfl) .nil)
  dsimp only
  show some (Value.int .i64 ((l.length : Int) - 1 - t - 1)) = _
  congr 2; omega
 refine DC.exit <| Ad <| Ad <| Ah <| Fin.then <| Zs ?_
 refine Zm ?_
 refine Za ?_
 refine Zx <| DC.ret ?_
 refine Fin.weak (E' := [(2, _)]) ⟨rfl, trivial⟩ (.cons 0 rfl .nil) ?_
 refine Zh ?_
 have hte : l.length ≤ t := by simp at c3; omega
 rw [List.take_of_length_le (by rw [List.length_reverse]; exact hte)]
end Go.Fl

namespace Go.Fl
open Go
def hit (x y : Int) (e : Pr) : Prop := (x = e.1 ∧ y = e.2) ∨ (x = e.2 ∧ y = e.1)
theorem Lg {x y : Int} {e : Pr} : hit x y e ↔ hit y x e := by unfold hit; exact ⟨fun h => h.elim (fun h => .inr ⟨h.2, h.1⟩) fun h => .inl ⟨h.2, h.1⟩, fun h => h.elim (fun h => .inr ⟨h.2, h.1⟩) fun h => .inl ⟨h.2, h.1⟩⟩
def stp : List Int → Pr → Prop
 | x :: y :: r, e => hit x y e ∨ stp (y :: r) e
 | _, _ => False
theorem M0 {x y : Int} {e : Pr} : stp [x, y] e ↔ hit x y e := by simp [stp]
theorem Ew (v : Int) (b : List Int) (e : Pr) : ∀ a : List Int, stp (a ++ v :: b) e ↔ stp (a ++ [v]) e ∨ stp (v :: b) e
 | [] => by simp [stp]
 | [x] => by
  show hit x v e ∨ stp (v :: b) e ↔ stp [x, v] e ∨ stp (v :: b) e
  rw [M0]
 | x :: y :: r => by
  have ih := Ew v b e (y :: r)
  show hit x y e ∨ stp (y :: r ++ v :: b) e ↔ (hit x y e ∨ stp (y :: r ++ [v]) e) ∨ stp (v :: b) e
  rw [ih]; exact or_assoc.symm
theorem GT (e : Pr) : ∀ l : List Int, stp l.reverse e ↔ stp l e
 | [] => by simp [stp]
 | [x] => by simp [stp]
 | x :: y :: r => by
  have ih := GT e (y :: r)
  rw [List.reverse_cons] at ih
  have e1 : (x :: y :: r).reverse = r.reverse ++ y :: [x] := by simp
  rw [e1, Ew, ih, M0]
  show stp (y :: r) e ∨ hit y x e ↔ hit x y e ∨ stp (y :: r) e
  rw [Lg]; exact or_comm
theorem Fv {l : List Int} {e : Pr} : stp l e ↔ ∃ (i : Nat) (x y : Int), l[i]? = some x ∧ l[i + 1]? = some y ∧ hit x y e := by
 induction l with
 | nil => simp [stp]
 | cons a r ih =>
  cases r with
  | nil => simp [stp]
  | cons b r =>
   show hit a b e ∨ stp (b :: r) e ↔ _
   rw [ih]
   constructor
   ·rintro (h | ⟨i, x, y, h1, h2, h3⟩)
    ·exact ⟨0, a, b, rfl, rfl, h⟩
    exact ⟨i + 1, x, y, by simpa using h1, by simpa using h2, h3⟩
   rintro ⟨i, x, y, h1, h2, h3⟩
   match i with
   | 0 => simp at h1 h2; subst h1 h2; exact .inl h3
   | i + 1 => exact .inr ⟨i, x, y, by simpa using h1, by simpa using h2, h3⟩
/-- A closed list, begun at another place. -/
theorem KA (e : Pr) {l : List Int} {k : Nat} {x y : Int} (hx : l[0]? = some x) (hy : l[k]? = some y) : stp (l.drop k ++ l.take k ++ [y]) e ↔ stp (l ++ [x]) e := by
 obtain ⟨hk, ek⟩ := TA.1 hy
 have hd : l.drop k = y :: l.drop (k + 1) := by rw [List.drop_eq_getElem_cons hk, ek]
 cases k with
 | zero =>
  rw [hy] at hx; cases hx
  simp
 | succ k =>
  obtain ⟨r, rfl⟩ : ∃ r, l = x :: r := by
   cases l with
   | nil => simp at hx
   | cons a r => simp at hx; subst hx; exact ⟨r, rfl⟩
  have ht : (x :: r).take (k + 1) = x :: r.take k := by simp
  have e1 : (x :: r).drop (k + 1) ++ (x :: r).take (k + 1) ++ [y] = (x :: r).drop (k + 1) ++ x :: (r.take k ++ [y]) := by rw [ht]; simp
  have e2 : x :: r ++ [x] = (x :: r).take (k + 1) ++ y :: ((x :: r).drop (k + 1 + 1) ++ [x]) := by
   have := List.take_append_drop (k + 1) (x :: r)
   rw [hd] at this
   conv => lhs; rw [← this]
   simp
  rw [e1, Ew x (r.take k ++ [y]) e ((x :: r).drop (k + 1)), e2, Ew y ((x :: r).drop (k + 1 + 1) ++ [x]) e ((x :: r).take (k + 1)), hd, ht]
  constructor
  ·rintro (h | h)
   ·exact .inr (by simpa using h)
   exact .inl (by simpa using h)
  rintro (h | h)
  ·exact .inr (by simpa using h)
  exact .inl (by simpa using h)
section
variable {N : Int} {es : List Pr}
theorem Le (hV : Vld N es) {h : Int} (hh : VH es h) {j : Nat} {e : Pr} (he : es[j]? = some e) : hit (fromV es h) (toV es h) e ↔ (h / 2).toNat = j := by
 have hj := (TA.1 he).1
 have h0 := hh.1
 constructor
 ·rintro (⟨h1, h2⟩ | ⟨h1, h2⟩)
  ·have a := Co he rfl rfl
   have b : IsHalf es e.1 e.2 h := ⟨hh.1, hh.2, h1, h2⟩
   have := a.uniq hV b
   omega
  have a := C6 he rfl rfl
  have b : IsHalf es e.2 e.1 h := ⟨hh.1, hh.2, h1, h2⟩
  have := a.uniq hV b
  omega
 intro hi
 rcases (by omega : h % 2 = 0 ∨ h % 2 = 1) with hp | hp
 ·have hh2 : h = 2 * (j : Int) := by omega
  have a := Co he rfl rfl
  rw [hh2]; exact .inl ⟨a.fr, a.to⟩
 have hh2 : h = 2 * (j : Int) + 1 := by omega
 have a := C6 he rfl rfl
 rw [hh2]; exact .inr ⟨a.fr, a.to⟩
end
end Go.Fl

namespace Go.Fl
open Go Go.Proofs
theorem Hv {l : List Int} {v : Value} {w : World} (hl : SlV w v l) (hne : 0 < l.length) :
  Calls Tryz.prog 165 #[v] w (Ret w [] fun r M => M = [] ∧ ∃ k : Nat, k < l.length ∧ r = .int .i64 k) := by
 obtain ⟨A, cap, rfl, hr, hlc, hcm, hle⟩ := hl
 refine Ao (K := []) (args := [_]) (L := []) Tryz.func165 rfl Tryz.ntmps165 rfl (Own.start _ _) ?_
 refine Zs ?_
 refine Za ?_
 refine Zx <| Zs ?_
 refine Za ?_
 refine Zx <| DC.seq <| Zs ?_
 refine Za ?_
 refine Zx <| DC.block ?_
 refine DC.loop (ι := Nat × Nat) (fun j => 1 ≤ j.1 ∧ j.2 < l.length) (fun j => [(0, .slice A l.length cap), (3, .int .i64 (j.2 : Nat)), (4, .int .i64 (j.1 : Nat))]) (fun _ => []) (fun j => l.length - j.1) (1, 0) ⟨Nat.le_refl _, hne⟩ ⟨rfl, rfl, rfl, trivial⟩ .nil ?_
 rintro ⟨i, k⟩ ⟨hi, hk⟩
 dsimp only at hi hk ⊢
 refine DC.seq <| Zs ?_
 iterate 2 refine Zm ?_
 refine Zn TT ?_
 refine Zc ?_
 refine Zx ?_
 refine Zd (fun c3 => ?_) fun c3 => ?_
 ·have hlt : i < l.length := by simpa using c3
  obtain ⟨x, hx⟩ : ∃ x, l[i]? = some x := ⟨_, Tz hlt⟩
  obtain ⟨y, hy⟩ : ∃ y, l[k]? = some y := ⟨_, Tz hk⟩
  obtain ⟨ad, rfl, hcx⟩ := hr.int hx
  obtain ⟨ad', e', hcy⟩ := hr.int hy
  cases e'
  refine DC.skip <| Fin.then <| DC.seq <| DC.block <| DC.seq ?_
  refine AF (cl := [.q, .q, .q, .v, .q, .q, .q, .v, .q]) (A := [0, 0, 3, 7, 0, 0, 48, 112, 255]) (order := [0, 1, 2, 3, 4, 5, 6, 7, 8]) [] mixed (by kernel_rfl) (fun w hw => hw.pick .nil) ?_
  iterate 2 refine Ym ?_
  refine Yo rfl (Aj (ad' := ad.add i) rfl rfl rfl TT AQ (by omega) (by omega) (by rw [TC])) ?_
  refine Am rfl rfl rfl rfl (Ai rfl rfl AJ (Aw hcx)) ?_
  iterate 2 refine Ym ?_
  refine Yo rfl (Aj (ad' := ad.add k) rfl rfl rfl TT AQ (by omega) (by omega) (by rw [TC])) ?_
  refine Am rfl rfl rfl rfl (Ai rfl rfl AJ (Aw hcy)) ?_
  refine Yo rfl (E7 rfl rfl rfl) ?_
  refine Flow.end rfl ?_
  simp only [zq, zr]
  refine Fin.then ?_
  refine Zd (fun c5 => ?_) fun c5 => ?_
  ·refine DC.region ?_
   refine Zm ?_
   refine Za ?_
   refine Seq.nil <| Fin.inBlock <| Fin.then <| DC.region ?_
   refine Zm ?_
   refine Zp ?_
   refine Za ?_
   refine Seq.nil ?_
   refine Ag (i + 1, i) (by dsimp only; omega) ⟨by dsimp only; omega, hlt⟩ ⟨rfl, rfl, rfl, trivial⟩ .nil
  refine DC.skip <| Fin.inBlock <| Fin.then <| DC.region ?_
  refine Zm ?_
  refine Zp ?_
  refine Za ?_
  refine Seq.nil ?_
  refine Ag (i + 1, k) (by dsimp only; omega) ⟨by dsimp only; omega, hk⟩ ⟨rfl, rfl, rfl, trivial⟩ .nil
 refine DC.exit <| Ad <| Ad <| Ah <| Fin.then <| Zs ?_
 refine Zm ?_
 refine Za ?_
 refine Zx <| DC.ret ?_
 refine Fin.weak (E' := [(2, _)]) ⟨rfl, trivial⟩ .nil ?_
 refine Zh ?_
 exact ⟨rfl, k, hk, rfl⟩
theorem Ht {l : List Int} {e : Pr} {v : Value} {w : World} (hl : SlV w v l) :
  Calls Tryz.prog 102 #[v, .agg #[.int .i64 e.1, .int .i64 e.2]] w (Ret w [] fun r M => M = [] ∧ ∃ b, r = .bool b ∧ (b = true ↔ stp l e)) := by
 obtain ⟨A, cap, rfl, hr, hlc, hcm, hle⟩ := hl
 refine Ao (K := []) (args := [_, _]) (L := []) Tryz.func102 rfl Tryz.ntmps102 rfl (Own.start _ _) ?_
 refine Zs ?_
 refine Zw (Ba rfl rfl rfl) fun g3 => ?_
 refine Za ?_
 refine Zx <| DC.seq <| Zs ?_
 refine Za ?_
 refine Zx <| DC.block ?_
 refine DC.loop (ι := Nat) (fun j => 1 ≤ j ∧ ∀ (i : Nat) x y, i + 1 < j → l[i]? = some x → l[i + 1]? = some y → ¬ hit x y e) (fun j => [(0, .slice A l.length cap), (3, .pointer (some ⟨g3, 0, none⟩)), (5, .int .i64 (j : Nat))]) (fun _ => [blk g3 43 #[.int .i64 e.1, .int .i64 e.2]]) (fun j => l.length - j) 1 ⟨Nat.le_refl _, fun i x y h => by omega⟩ ⟨rfl, rfl, rfl, trivial⟩ (.cons 0 rfl .nil) ?_
 rintro j ⟨hj, hno⟩
 refine DC.seq <| Zs ?_
 iterate 2 refine Zm ?_
 refine Zn TT ?_
 refine Zc ?_
 refine Zx ?_
 refine Zd (fun c2 => ?_) fun c2 => ?_
 ·have hlt : j < l.length := by simpa using c2
  obtain ⟨x, hx⟩ : ∃ x, l[j - 1]? = some x := ⟨_, Tz (by omega)⟩
  obtain ⟨y, hy⟩ : ∃ y, l[j]? = some y := ⟨_, Tz hlt⟩
  obtain ⟨ad, rfl, hcx⟩ := hr.int hx
  obtain ⟨ad', e', hcy⟩ := hr.int hy
  cases e'
  refine DC.skip <| Fin.then <| DC.seq <| DC.block <| DC.seq ?_
  refine AF (cl := [.q, .q, .q, .q, .v, .q, .v, .q, .q, .q, .q, .q, .v, .q, .v, .q, .q, .q, .q, .q, .q, .q, .v, .q, .v, .q, .q, .q, .q, .q, .v, .q, .v, .q, .q, .q]) (A := [0, 0, 2, 7, 15, 0, 32, 127, 255, 511, 511, 2047, 4095, 511, 8703, 32767, 65535, 131071, 262143, 262143, 786431, 2097151, 4194303, 262143, 8650751, 33554431, 67108863, 134217727, 134217727, 536870911, 1073741823, 134217727, 2281701375, 8589934591, 17179869183, 34359738367]) (order := [0, 1, 2, 3, 4, 5, 6, 7, 8, 9, 10, 11, 12, 13, 14, 15, 16, 17, 18, 19, 20, 21, 22, 23, 24, 25, 26, 27, 28, 29, 30, 31, 32, 33, 34, 35]) [] mixed (by kernel_rfl) (fun w hw => hw.pick .nil) ?_
  iterate 2 refine Ym ?_
  refine Yo rfl (Bv rfl rfl rfl (by omega)) ?_
  refine Yo rfl (Aj (ad' := ad.add (j - 1)) rfl rfl rfl TT AQ (by omega) (by omega) (by congr 1; omega)) ?_
  refine Am rfl rfl rfl rfl (Ai rfl rfl AJ (Aw hcx)) ?_
  refine Yf Bb ?_
  refine Yl AJ ?_
  refine Yo rfl (AN rfl rfl rfl) ?_
  refine Ym ?_
  refine Flow.split 20 rfl (fun k4_8 => ?_) (fun k4_8 => ?_)
  ·refine Ym ?_
   refine Ym ?_
   refine Yo rfl (Aj (ad' := ad.add j) rfl rfl rfl TT AQ (by omega) (by omega) (by rw [TC])) ?_
   refine Am rfl rfl rfl rfl (Ai rfl rfl AJ (Aw hcy)) ?_
   refine Yf Bk ?_
   refine Yl AJ ?_
   refine Yo rfl (AN rfl rfl rfl) ?_
   refine Yo rfl (A7 rfl rfl rfl) ?_
   refine Ym ?_
   refine Flow.split 29 rfl (fun k4_17 => ?_) (fun k4_17 => ?_)
   ·refine Yk ?_
    iterate 16 refine Yk ?_
    refine Yo rfl (A7 rfl rfl rfl) ?_
    refine Flow.end rfl ?_
    simp only [zq, zr]
    refine Fin.then ?_
    refine AI rfl ?_
    refine Zs ?_
    refine Za ?_
    refine Zx <| DC.ret <| Ae <| Aa <| Aa <| Ae <| Aa ?_
    refine Fin.weak (E' := [(4, _)]) ⟨rfl, trivial⟩ .nil ?_
    refine Zh ?_
    refine ⟨rfl, true, rfl, ?_⟩
    simp only [true_iff]
    refine Fv.2 ⟨j - 1, x, y, hx, by rw [show j - 1 + 1 = j by omega]; exact hy, ?_⟩
    unfold hit
    first
    | (simp at k4_8 k4_17; omega)
    | (simp at k4_26 c4; omega)
   iterate 2 refine Ym ?_
   refine Yo rfl (Bv rfl rfl rfl (by omega)) ?_
   refine Yo rfl (Aj (ad' := ad.add (j - 1)) rfl rfl rfl TT AQ (by omega) (by omega) (by congr 1; omega)) ?_
   refine Am rfl rfl rfl rfl (Ai rfl rfl AJ (Aw hcx)) ?_
   refine Yf Bk ?_
   refine Yl AJ ?_
   refine Yo rfl (AN rfl rfl rfl) ?_
   refine Ym ?_
   refine Flow.split 38 rfl (fun k4_26 => ?_) (fun k4_26 => ?_)
   ·refine Ym ?_
    refine Ym ?_
    refine Yo rfl (Aj (ad' := ad.add j) rfl rfl rfl TT AQ (by omega) (by omega) (by rw [TC])) ?_
    refine Am rfl rfl rfl rfl (Ai rfl rfl AJ (Aw hcy)) ?_
    refine Yf Bb ?_
    refine Yl AJ ?_
    refine Yo rfl (AN rfl rfl rfl) ?_
    refine Yo rfl (A7 rfl rfl rfl) ?_
    refine Yo rfl (AZ rfl rfl rfl) ?_
    refine Flow.end rfl ?_
    simp only [zq, zr]
    refine Fin.then ?_
    refine Zd (fun c4 => ?_) fun c4 => ?_
    ·refine Zs ?_
     refine Za ?_
     refine Zx <| DC.ret <| Ae <| Aa <| Aa <| Ae <| Aa ?_
     refine Fin.weak (E' := [(4, _)]) ⟨rfl, trivial⟩ .nil ?_
     refine Zh ?_
     refine ⟨rfl, true, rfl, ?_⟩
     simp only [true_iff]
     refine Fv.2 ⟨j - 1, x, y, hx, by rw [show j - 1 + 1 = j by omega]; exact hy, ?_⟩
     unfold hit
     simp at k4_26 c4; omega
    refine DC.skip <| Fin.inBlock <| Fin.then <| DC.region ?_
    refine Zm ?_
    refine Zp ?_
    refine Za ?_
    refine Seq.nil ?_
    refine Ag (j + 1) (by omega) ⟨by omega, fun i x' y' hi hx' hy' => ?_⟩ ⟨rfl, rfl, rfl, trivial⟩ (.cons 0 rfl .nil)
    by_cases hij : i + 1 = j
    ·have hi1 : i = j - 1 := by omega
     subst hi1
     rw [hx] at hx'; cases hx'
     rw [hij, hy] at hy'; cases hy'
     unfold hit
     first
     | (simp at k4_8 k4_17 k4_26 c4; omega)
     | (simp at k4_8 k4_17 k4_26; omega)
     | (simp at k4_8 k4_26 c4; omega)
     | (simp at k4_8 k4_26; omega)
    exact hno i x' y' (by omega) hx' hy'
   iterate 7 refine Yk ?_
   refine Yo rfl (AZ rfl rfl rfl) ?_
   refine Yo rfl (AZ rfl rfl rfl) ?_
   refine Flow.end rfl ?_
   simp only [zq, zr]
   refine Fin.then ?_
   refine AT rfl ?_
   refine DC.skip <| Fin.inBlock <| Fin.then <| DC.region ?_
   refine Zm ?_
   refine Zp ?_
   refine Za ?_
   refine Seq.nil ?_
   refine Ag (j + 1) (by omega) ⟨by omega, fun i x' y' hi hx' hy' => ?_⟩ ⟨rfl, rfl, rfl, trivial⟩ (.cons 0 rfl .nil)
   by_cases hij : i + 1 = j
   ·have hi1 : i = j - 1 := by omega
    subst hi1
    rw [hx] at hx'; cases hx'
    rw [hij, hy] at hy'; cases hy'
    unfold hit
    first
    | (simp at k4_8 k4_17 k4_26 c4; omega)
    | (simp at k4_8 k4_17 k4_26; omega)
    | (simp at k4_8 k4_26 c4; omega)
    | (simp at k4_8 k4_26; omega)
   exact hno i x' y' (by omega) hx' hy'
  iterate 7 refine Yk ?_
  refine Yo rfl (AZ rfl rfl rfl) ?_
  iterate 3 refine Ym ?_
  refine Yo rfl (Bv rfl rfl rfl (by omega)) ?_
  refine Yo rfl (Aj (ad' := ad.add (j - 1)) rfl rfl rfl TT AQ (by omega) (by omega) (by congr 1; omega)) ?_
  refine Am rfl rfl rfl rfl (Ai rfl rfl AJ (Aw hcx)) ?_
  refine Yf Bk ?_
  refine Yl AJ ?_
  refine Yo rfl (AN rfl rfl rfl) ?_
  refine Ym ?_
  refine Flow.split 38 rfl (fun k4_26 => ?_) (fun k4_26 => ?_)
  ·refine Ym ?_
   refine Ym ?_
   refine Yo rfl (Aj (ad' := ad.add j) rfl rfl rfl TT AQ (by omega) (by omega) (by rw [TC])) ?_
   refine Am rfl rfl rfl rfl (Ai rfl rfl AJ (Aw hcy)) ?_
   refine Yf Bb ?_
   refine Yl AJ ?_
   refine Yo rfl (AN rfl rfl rfl) ?_
   refine Yo rfl (A7 rfl rfl rfl) ?_
   refine Yo rfl (AZ rfl rfl rfl) ?_
   refine Flow.end rfl ?_
   simp only [zq, zr]
   refine Fin.then ?_
   refine Zd (fun c4 => ?_) fun c4 => ?_
   ·refine Zs ?_
    refine Za ?_
    refine Zx <| DC.ret <| Ae <| Aa <| Aa <| Ae <| Aa ?_
    refine Fin.weak (E' := [(4, _)]) ⟨rfl, trivial⟩ .nil ?_
    refine Zh ?_
    refine ⟨rfl, true, rfl, ?_⟩
    simp only [true_iff]
    refine Fv.2 ⟨j - 1, x, y, hx, by rw [show j - 1 + 1 = j by omega]; exact hy, ?_⟩
    unfold hit
    simp at k4_26 c4; omega
   refine DC.skip <| Fin.inBlock <| Fin.then <| DC.region ?_
   refine Zm ?_
   refine Zp ?_
   refine Za ?_
   refine Seq.nil ?_
   refine Ag (j + 1) (by omega) ⟨by omega, fun i x' y' hi hx' hy' => ?_⟩ ⟨rfl, rfl, rfl, trivial⟩ (.cons 0 rfl .nil)
   by_cases hij : i + 1 = j
   ·have hi1 : i = j - 1 := by omega
    subst hi1
    rw [hx] at hx'; cases hx'
    rw [hij, hy] at hy'; cases hy'
    unfold hit
    first
    | (simp at k4_8 k4_17 k4_26 c4; omega)
    | (simp at k4_8 k4_17 k4_26; omega)
    | (simp at k4_8 k4_26 c4; omega)
    | (simp at k4_8 k4_26; omega)
   exact hno i x' y' (by omega) hx' hy'
  iterate 7 refine Yk ?_
  refine Yo rfl (AZ rfl rfl rfl) ?_
  refine Yo rfl (AZ rfl rfl rfl) ?_
  refine Flow.end rfl ?_
  simp only [zq, zr]
  refine Fin.then ?_
  refine AT rfl ?_
  refine DC.skip <| Fin.inBlock <| Fin.then <| DC.region ?_
  refine Zm ?_
  refine Zp ?_
  refine Za ?_
  refine Seq.nil ?_
  refine Ag (j + 1) (by omega) ⟨by omega, fun i x' y' hi hx' hy' => ?_⟩ ⟨rfl, rfl, rfl, trivial⟩ (.cons 0 rfl .nil)
  by_cases hij : i + 1 = j
  ·have hi1 : i = j - 1 := by omega
   subst hi1
   rw [hx] at hx'; cases hx'
   rw [hij, hy] at hy'; cases hy'
   unfold hit
   first
   | (simp at k4_8 k4_17 k4_26 c4; omega)
   | (simp at k4_8 k4_17 k4_26; omega)
   | (simp at k4_8 k4_26 c4; omega)
   | (simp at k4_8 k4_26; omega)
  exact hno i x' y' (by omega) hx' hy'
 refine DC.exit <| Ad <| Ad <| Ah <| Fin.then <| Zs ?_
 refine Za ?_
 refine Zx <| DC.ret ?_
 refine Fin.weak (E' := [(4, _)]) ⟨rfl, trivial⟩ .nil ?_
 refine Zh ?_
 refine ⟨rfl, false, rfl, ?_⟩
 simp only [Bool.false_eq_true, false_iff]
 rw [Fv]
 rintro ⟨i, x, y, h1, h2, h3⟩
 have := (TA.1 h2).1
 exact hno i x y (by simp at c2; omega) h1 h2 h3
theorem DH {l : List Int} {v : Value} {w : World} (hO : Own w (idsOf [slc v 3 1 (ints l)]) w [slc v 3 1 (ints l)]) (h2 : 2 ≤ l.length) (hn : l.length ≤ 1000000000) :
  Calls Tryz.prog 132 #[v] w (Ret w (idsOf [slc v 3 1 (ints l)]) fun r M => ∃ c, M = [slc r 3 1 (ints c)] ∧ (c = l ∨ c = l.reverse) ∧ ∀ x y, l[0]? = some x → l[l.length - 1]? = some y → (c = l ∧ x ≤ y) ∨ (c = l.reverse ∧ y ≤ x)) := by
 have hsl := Ck hO 0 rfl (by omega)
 have hsl0 := hsl
 obtain ⟨A, cap, rfl, hr, hlc, hcm, hle⟩ := hsl
 obtain ⟨x0, hx0⟩ : ∃ x, l[0]? = some x := ⟨_, Tz (by omega)⟩
 obtain ⟨x1, hx1⟩ : ∃ x, l[1]? = some x := ⟨_, Tz (by omega)⟩
 obtain ⟨y0, hy0⟩ : ∃ x, l[l.length - 1]? = some x := ⟨_, Tz (by omega)⟩
 obtain ⟨y1, hy1⟩ : ∃ x, l[l.length - 2]? = some x := ⟨_, Tz (by omega)⟩
 obtain ⟨ad, rfl, ca⟩ := hr.int hx0
 have rd : ∀ {i : Nat} {x : Int}, l[i]? = some x → Has w (idsOf [slc (.slice (some ad) l.length cap) 3 1 (ints l)]) [slc (.slice (some ad) l.length cap) 3 1 (ints l)] (ad.add i) (.int .i64 x) := fun hi w' hw => BB (i := 0) rfl w' hw _ _ (BL hi)
 refine Ao (args := [_]) Tryz.func132 rfl Tryz.ntmps132 rfl hO ?_
 refine Zs ?_
 refine Za ?_
 refine Zx <| Zs ?_
 refine Zm ?_
 refine Zn TT ?_
 refine Za ?_
 refine Zx <| DC.seq <| DC.seq ?_
 refine AF (cl := [.q, .q, .v, .q, .q, .q, .q, .v, .q, .q, .q, .q, .v, .q, .q, .q, .q, .v, .q, .q, .q, .q, .v, .q, .q, .q, .q, .v, .q, .q, .q]) (A := [0, 1, 3, 0, 0, 16, 56, 120, 255, 511, 1023, 2047, 4095, 1023, 1023, 17407, 58367, 123903, 262143, 524287, 1048575, 2097151, 4194303, 1048575, 1048575, 17825791, 59768831, 126877695, 268435455, 536870911, 1073741823]) (order := [0, 1, 2, 3, 4, 5, 6, 7, 8, 9, 10, 11, 12, 13, 14, 15, 16, 17, 18, 19, 20, 21, 22, 23, 24, 25, 26, 27, 28, 29, 30]) [] mixed (by kernel_rfl) (fun w hw => hw.pick .nil) ?_
 refine Ym ?_
 refine Yo rfl (Aj (ad' := ad.add 0) rfl rfl rfl TT AQ (by omega) (by omega) rfl) ?_
 refine Am rfl rfl rfl rfl (Ai rfl rfl AJ (rd hx0)) ?_
 iterate 2 refine Ym ?_
 refine Yo rfl (Bv rfl rfl rfl (by omega)) ?_
 refine Yo rfl (Aj (ad' := ad.add (l.length - 1)) rfl rfl rfl TT AQ (by omega) (by omega) (by congr 1; omega)) ?_
 refine Am rfl rfl rfl rfl (Ai rfl rfl AJ (rd hy0)) ?_
 refine Yo rfl (Bs rfl rfl rfl) ?_
 refine Ym ?_
 refine Flow.split 15 rfl (fun k2_9 => ?_) (fun k2_9 => ?_)
 ·refine Yk ?_
  iterate 19 refine Yk ?_
  refine Yo rfl (A7 rfl rfl rfl) ?_
  refine Flow.end rfl ?_
  simp only [zq, zr]
  refine Fin.then ?_
  refine AI rfl ?_
  refine Zs ?_
  refine Zm ?_
  refine Seq.rel rfl rfl (Ar Lz rfl rfl rfl (fun w' hw => Cg (Ck hw 0 rfl (by omega)) hn)) ?_
  rintro v38 _ rfl
  refine Za ?_
  refine Zx <| DC.ret <| Aa ?_
  refine Fin.weak (E' := [(2, _)]) ⟨rfl, trivial⟩ (.cons 0 rfl .nil) ?_
  refine Zh ?_
  refine ⟨_, rfl, ?_⟩
  first
  | (refine ⟨.inr rfl, fun x y hx hy => .inr ⟨rfl, ?_⟩⟩
     rw [hx0] at hx; cases hx
     rw [hy0] at hy; cases hy
     first
     | (simp at k2_9; omega)
     | (simp at k2_19; omega))
  | (refine ⟨.inl rfl, fun x y hx hy => .inl ⟨rfl, ?_⟩⟩
     rw [hx0] at hx; cases hx
     rw [hy0] at hy; cases hy
     simp at k2_9; omega)
 refine Ym ?_
 refine Yo rfl (Aj (ad' := ad.add 0) rfl rfl rfl TT AQ (by omega) (by omega) rfl) ?_
 refine Am rfl rfl rfl rfl (Ai rfl rfl AJ (rd hx0)) ?_
 iterate 2 refine Ym ?_
 refine Yo rfl (Bv rfl rfl rfl (by omega)) ?_
 refine Yo rfl (Aj (ad' := ad.add (l.length - 1)) rfl rfl rfl TT AQ (by omega) (by omega) (by congr 1; omega)) ?_
 refine Am rfl rfl rfl rfl (Ai rfl rfl AJ (rd hy0)) ?_
 refine Yo rfl (AN rfl rfl rfl) ?_
 refine Ym ?_
 refine Flow.split 25 rfl (fun k2_19 => ?_) (fun k2_19 => ?_)
 ·refine Ym ?_
  refine Yo rfl (Aj (ad' := ad.add 1) rfl rfl rfl TT AQ (by omega) (by omega) rfl) ?_
  refine Am rfl rfl rfl rfl (Ai rfl rfl AJ (rd hx1)) ?_
  iterate 2 refine Ym ?_
  refine Yo rfl (Bv rfl rfl rfl (by omega)) ?_
  refine Yo rfl (Aj (ad' := ad.add (l.length - 2)) rfl rfl rfl TT AQ (by omega) (by omega) (by congr 1; omega)) ?_
  refine Am rfl rfl rfl rfl (Ai rfl rfl AJ (rd hy1)) ?_
  refine Yo rfl (Bs rfl rfl rfl) ?_
  refine Yo rfl (A7 rfl rfl rfl) ?_
  refine Yo rfl (AZ rfl rfl rfl) ?_
  refine Flow.end rfl ?_
  simp only [zq, zr]
  refine Fin.then ?_
  refine Zd (fun c2 => ?_) fun c2 => ?_
  ·refine Zs ?_
   refine Zm ?_
   refine Seq.rel rfl rfl (Ar Lz rfl rfl rfl (fun w' hw => Cg (Ck hw 0 rfl (by omega)) hn)) ?_
   rintro v38 _ rfl
   refine Za ?_
   refine Zx <| DC.ret <| Aa ?_
   refine Fin.weak (E' := [(2, _)]) ⟨rfl, trivial⟩ (.cons 0 rfl .nil) ?_
   refine Zh ?_
   refine ⟨_, rfl, ?_⟩
   first
   | (refine ⟨.inr rfl, fun x y hx hy => .inr ⟨rfl, ?_⟩⟩
      rw [hx0] at hx; cases hx
      rw [hy0] at hy; cases hy
      first
      | (simp at k2_9; omega)
      | (simp at k2_19; omega))
   | (refine ⟨.inl rfl, fun x y hx hy => .inl ⟨rfl, ?_⟩⟩
      rw [hx0] at hx; cases hx
      rw [hy0] at hy; cases hy
      simp at k2_9; omega)
  refine DC.skip <| Fin.then <| Zs ?_
  refine Zm ?_
  refine Za ?_
  refine Zx <| DC.ret ?_
  refine Fin.weak (E' := [(2, _)]) ⟨rfl, trivial⟩ (.cons 0 rfl .nil) ?_
  refine Zh ?_
  refine ⟨_, rfl, ?_⟩
  first
  | (refine ⟨.inr rfl, fun x y hx hy => .inr ⟨rfl, ?_⟩⟩
     rw [hx0] at hx; cases hx
     rw [hy0] at hy; cases hy
     first
     | (simp at k2_9; omega)
     | (simp at k2_19; omega))
  | (refine ⟨.inl rfl, fun x y hx hy => .inl ⟨rfl, ?_⟩⟩
     rw [hx0] at hx; cases hx
     rw [hy0] at hy; cases hy
     simp at k2_9; omega)
 iterate 9 refine Yk ?_
 refine Yo rfl (AZ rfl rfl rfl) ?_
 refine Yo rfl (AZ rfl rfl rfl) ?_
 refine Flow.end rfl ?_
 simp only [zq, zr]
 refine Fin.then ?_
 refine AT rfl ?_
 refine DC.skip <| Fin.then <| Zs ?_
 refine Zm ?_
 refine Za ?_
 refine Zx <| DC.ret ?_
 refine Fin.weak (E' := [(2, _)]) ⟨rfl, trivial⟩ (.cons 0 rfl .nil) ?_
 refine Zh ?_
 refine ⟨_, rfl, ?_⟩
 first
 | (refine ⟨.inr rfl, fun x y hx hy => .inr ⟨rfl, ?_⟩⟩
    rw [hx0] at hx; cases hx
    rw [hy0] at hy; cases hy
    first
    | (simp at k2_9; omega)
    | (simp at k2_19; omega))
 | (refine ⟨.inl rfl, fun x y hx hy => .inl ⟨rfl, ?_⟩⟩
    rw [hx0] at hx; cases hx
    rw [hy0] at hy; cases hy
    simp at k2_9; omega)
/-- A closed list in its one way: begun at another place, then perhaps turned about. -/
def CycR (l c : List Int) : Prop := ∃ (k : Nat) (y : Int), l[k]? = some y ∧ (c = l.drop k ++ l.take k ++ [y] ∨ c = (l.drop k ++ l.take k ++ [y]).reverse)
theorem OX {l : List Int} {k i : Nat} {x : Int} (hk : k < l.length) (hi : i < l.length) (hx : l[(k + i) % l.length]? = some x) : (l.drop k ++ l.take k).take (i + 1) = (l.drop k ++ l.take k).take i ++ [x] := by
 rw [List.take_add_one]
 congr 1
 rw [List.getElem?_append, List.length_drop]
 split
 ·rename_i h
  rw [List.getElem?_drop]
  rw [Nat.mod_eq_of_lt (by omega)] at hx
  rw [hx]; rfl
 rename_i h
 rw [List.getElem?_take, if_pos (by omega)]
 rw [Nat.mod_eq_sub_mod (by omega), Nat.mod_eq_of_lt (by omega)] at hx
 rw [show i - (l.length - k) = k + i - l.length by omega, hx]; rfl
theorem Hw {r : List Int} {z : Int} {v : Value} {w : World} (hl : SlV w v (r ++ [z])) (hne : 0 < r.length) (hn : r.length ≤ 900000000) :
  Calls Tryz.prog 131 #[v] w (Ret w [] fun q M => ∃ c, M = [slc q 3 1 (ints c)] ∧ CycR r c) := by
 obtain ⟨A, cap, rfl, hr, hlc, hcm, hle⟩ := hl
 have hll : (r ++ [z]).length = r.length + 1 := by simp
 rw [hll] at hlc hle ⊢
 have hrr : Rd w A (ints r) := fun j u hj => hr j u (by rw [AU, TK (by have := (TA.1 hj).1; exact this)]; exact hj)
 have hsr : SlV w (.slice A r.length cap) r := ⟨A, cap, rfl, hrr, by omega, hcm, by omega⟩
 refine Ao (K := []) (args := [_]) (L := []) Tryz.func131 rfl Tryz.ntmps131 rfl (Own.start _ _) ?_
 refine Zs ?_
 refine Za ?_
 refine Zx <| Zs ?_
 iterate 2 refine Zm ?_
 refine Zn TT ?_
 refine Zo (Bv rfl rfl rfl (by omega)) ?_
 refine Zo (Fi (hi := r.length) rfl rfl (by rw [show ((r.length : Nat) : Int) = ((r.length + 1 : Nat) : Int) - 1 by omega]; rfl) TT AQ (by omega)) ?_
 refine Za ?_
 refine Zx <| Zs ?_
 refine Zm ?_
 refine Seq.rel0 rfl rfl (Ar SV rfl rfl rfl (fun w hw => Hv (hsr.keep0 hw) hne)) ?_
 rintro _ ⟨k, hk, rfl⟩
 refine Za ?_
 refine Zx <| Zs ?_
 refine Za ?_
 refine Zx <| DC.seq <| Zs ?_
 refine Za ?_
 refine Zx <| DC.block ?_
 refine DC.own (fun w hw => AX (t := 3) (m := 1) hw) ?_
 refine DC.loop (ι := GoI) (fun j => j.t ≤ r.length) (fun j => [(3, .slice A r.length cap), (4, .int .i64 (k : Nat)), (5, j.v), (6, .int .i64 (j.t : Nat))]) (fun j => [slc j.v 3 1 (ints ((r.drop k ++ r.take k).take j.t))]) (fun j => r.length - j.t) ⟨0, .slice none 0 0⟩ (Nat.zero_le _) ⟨rfl, rfl, rfl, rfl, trivial⟩ (.cons 0 rfl .nil) ?_
 rintro ⟨i, v⟩ hi
 dsimp only at hi ⊢
 refine DC.seq <| Zs ?_
 iterate 2 refine Zm ?_
 refine Zn TT ?_
 refine Zc ?_
 refine Zx ?_
 refine Zd (fun c5 => ?_) fun c5 => ?_
 ·have hlt : i < r.length := by simpa using c5
  have hml : (k + i) % r.length < r.length := Nat.mod_lt _ (by omega)
  obtain ⟨x, hx⟩ : ∃ x, r[(k + i) % r.length]? = some x := ⟨_, Tz hml⟩
  obtain ⟨ad, rfl, hcx⟩ := hrr.int hx
  have emod : ((k : Int) + (i : Int)) % (r.length : Int) = (((k + i) % r.length : Nat) : Int) := by rw [Int.natCast_emod, Int.natCast_add]
  refine DC.skip <| Fin.then <| DC.seq <| DC.block <| DC.region ?_
  iterate 4 refine Zm ?_
  refine Zp ?_
  refine Zm ?_
  refine Zn TT ?_
  refine Zo (IW (j := (r.length : Int)) rfl rfl rfl (by omega) (by omega)) ?_
  rw [emod]
  refine Zo (Aj (ad' := ad.add ((k + i) % r.length)) rfl rfl rfl TT AQ (by omega) (by omega) (by rw [TC])) ?_
  refine Zu (Ai rfl rfl AJ (Aw hcx)) ?_
  refine Zw (AP (cs := #[_]) rfl rfl TT AQ B0 rfl (by decide) (by decide) rfl rfl) fun g30 => ?_
  refine Seq.gen rfl rfl (AK (F := [blk g30 3 #[.int .i64 x]]) (vs := ints ((r.drop k ++ r.take k).take i)) (k := 1) (news := [.int .i64 x]) rfl rfl rfl TT AQ DE B0 rfl (by decide) (by decide)
   (fun w hw => hw.pick (.cons 1 rfl (.cons 0 rfl .nil))) (.inl ⟨_, _, rfl, Ak rfl⟩) rfl (Bm [x] []) (by rw [ints_length, List.length_take]; omega)) ?_
  rintro v31 _ rfl
  refine Za ?_
  refine Seq.nil <| Fin.inBlock <| Fin.then <| DC.region ?_
  refine Zm ?_
  refine Zp ?_
  refine Za ?_
  refine Seq.nil ?_
  refine Ag ⟨i + 1, v31⟩ (by dsimp only; omega) (by dsimp only; omega) ⟨rfl, rfl, rfl, rfl, trivial⟩ (.cons' 0 rfl (by dsimp only; rw [OX hk hlt hx, AU]; rfl) .nil)
 refine DC.exit <| Ad <| Ad <| Ah <| Fin.then <| DC.seq ?_
 have hir : i = r.length := by simp at c5; omega
 subst hir
 have hrl : (r.drop k ++ r.take k).length = r.length := by simp; omega
 rw [List.take_of_length_le (by omega)]
 obtain ⟨y, hy⟩ : ∃ y, r[k]? = some y := ⟨_, Tz hk⟩
 obtain ⟨ad, rfl, hcy⟩ := hrr.int hy
 refine DC.region ?_
 iterate 3 refine Zm ?_
 refine Zo (Aj (ad' := ad.add k) rfl rfl rfl TT AQ (by omega) (by omega) (by rw [TC])) ?_
 refine Zu (Ai rfl rfl AJ (Aw hcy)) ?_
 refine Zw (AP (cs := #[_]) rfl rfl TT AQ B0 rfl (by decide) (by decide) rfl rfl) fun g37 => ?_
 refine Seq.gen rfl rfl (AK (F := [blk g37 3 #[.int .i64 y]]) (vs := ints (r.drop k ++ r.take k)) (k := 1) (news := [.int .i64 y]) rfl rfl rfl TT AQ DE B0 rfl (by decide) (by decide)
  (fun w hw => hw.pick (.cons 1 rfl (.cons 0 rfl .nil))) (.inl ⟨_, _, rfl, Ak rfl⟩) rfl (Bm [y] []) (by rw [ints_length]; omega)) ?_
 rintro v38 _ rfl
 rw [show [Value.int .i64 y] = ints [y] from rfl, ← AU]
 refine Za ?_
 refine Zx <| Zs ?_
 refine Zm ?_
 refine Seq.gen rfl rfl (Bh Rm rfl rfl rfl (Lc := [slc v38 3 1 (ints (r.drop k ++ r.take k ++ [y]))]) (F := [blk g37 3 #[.int .i64 y]]) (.refl _) (fun k hk => hk) (fun w hw => DH (hw.pick (.cons 0 rfl .nil)).self (by rw [List.length_append, hrl]; simp; omega) (by rw [List.length_append, hrl]; simp; omega))) ?_
 rintro v40 _ ⟨_, ⟨c, rfl, hc, _⟩, rfl⟩
 refine Za ?_
 refine Zx <| DC.ret ?_
 refine Fin.weak (E' := [(2, _)]) ⟨rfl, trivial⟩ (.cons 0 rfl .nil) ?_
 refine Zh ?_
 exact ⟨c, rfl, k, y, hy, hc⟩
open Classical
/-! ### what a chain is in the document's way -/
def ChnR (es : List Pr) (k : Nat) (c : List Int) : Prop :=
 WrtR (endA es k) (endB es k) c ∧ 2 ≤ c.length ∧ c.length ≤ es.length * 4 + 4 ∧ ∀ (j : Nat) e, es[j]? = some e → (stp c e ↔ ∃ x, x ∈ chainOf es k ∧ x / 2 = j)
section
variable {N : Int} {es : List Pr}
theorem G7 {h : Int} {t i : Nat} (hi : i ≤ t) : (goL es h t)[i + 1]? = some (toV es (wI es h i)) := by
 unfold goL
 rw [List.getElem?_cons_succ, List.getElem?_map, Dk hi]; rfl
theorem Lm (hV : Vld N es) {h : Int} {t i : Nat} (hw : Way es h t) (hi : i ≤ t) : (goL es h t)[i]? = some (fromV es (wI es h i)) := by
 cases i with
 | zero => rfl
 | succ i => rw [G7 (by omega), hw.link hV (by omega)]
theorem JU (hV : Vld N es) {h : Int} {t : Nat} (hw : Way es h t) {j : Nat} {e : Pr} (he : es[j]? = some e) : stp (goL es h t) e ↔ ∃ x, x ∈ wayL es h t ∧ x / 2 = j := by
 rw [Fv]
 constructor
 ·rintro ⟨i, x, y, h1, h2, h3⟩
  have hl := (TA.1 h2).1
  rw [D8] at hl
  rw [Lm hV hw (by omega)] at h1
  rw [G7 (by omega)] at h2
  cases h1; cases h2
  have hv := hw.all hV i (by omega)
  have := (Le hV hv he).1 h3
  have h0 := hv.1
  exact ⟨_, TD (Dk (show i ≤ t by omega)), by omega⟩
 rintro ⟨x, hx, hxj⟩
 obtain ⟨i, hi⟩ := TF.1 hx
 have hl := (TA.1 hi).1
 rw [CF] at hl
 rw [Dk (by omega)] at hi
 cases hi
 have hv := hw.all hV i (by omega)
 exact ⟨i, _, _, Lm hV hw (by omega), G7 (by omega), (Le hV hv he).2 (by have := hv.1; omega)⟩
theorem FQ (h : Int) (t : Nat) : (goL es h t)[t + 1]? = some (toV es (wI es h t)) := G7 (Nat.le_refl _)
theorem Ko {a b : Int} {c : List Int} (hab : a = b) {p : Int} (h0 : c[0]? = some p) (h1 : c[c.length - 1]? = some p) : WrtR a b c := ⟨p, p, h0, h1, fun _ => rfl, fun h => absurd hab h⟩
theorem FD {l : List Int} {i : Nat} (hi : i < l.length) : l.reverse[i]? = l[l.length - 1 - i]? := List.getElem?_reverse hi
theorem P7 (hV : Vld N es) {k : Nat} (hk : k < es.length) (hf : FreeC es k) {r c : List Int} {z : Int} (hr : goL es (2 * (k : Int)) (wayT es (2 * k)) = r ++ [z]) (hc : CycR r c) : ChnR es k c := by
 have hst := Bz hV (Cy hk)
 have hlen := congrArg List.length hr
 rw [D8, List.length_append] at hlen
 simp at hlen
 have hlt := hst.way.lt hV
 obtain ⟨q, y, hy, hcc⟩ := hc
 have hql := (TA.1 hy).1
 have hz : r[0]? = some z := by
  have h1 : (goL es (2 * (k : Int)) (wayT es (2 * k)))[0]? = some (fromV es (2 * (k : Int))) := rfl
  have h2 := FQ (es := es) (2 * (k : Int)) (wayT es (2 * k))
  rw [hf.1, hr] at h2
  rw [hr] at h1
  rw [TK (by omega)] at h1
  rw [TL (by omega)] at h2
  rw [show wayT es (2 * (k : Int)) + 1 - r.length = 0 by omega] at h2
  simp at h2
  rw [h1, h2]
 have hrl : (r.drop q ++ r.take q).length = r.length := by simp; omega
 have h0 : (r.drop q ++ r.take q ++ [y])[0]? = some y := by
  rw [List.append_assoc, TK (by rw [List.length_drop]; omega), List.getElem?_drop]; exact hy
 have h1 : (r.drop q ++ r.take q ++ [y])[r.length]? = some y := by
  rw [TL (by omega), hrl, Nat.sub_self]; rfl
 have hcl : (r.drop q ++ r.take q ++ [y]).length = r.length + 1 := by rw [List.length_append, hrl]; rfl
 have hs : ∀ e, stp c e ↔ stp (goL es (2 * (k : Int)) (wayT es (2 * k))) e := by
  intro e
  rw [hr]
  rcases hcc with rfl | rfl
  ·exact KA e hz hy
  rw [GT]; exact KA e hz hy
 refine ⟨?_, ?_, ?_, fun j e he => ?_⟩
 ·rcases hcc with rfl | rfl
  ·exact Ko (Je hf) h0 (by rw [hcl]; exact h1)
  refine Ko (Je hf) (p := y) ?_ ?_
  ·rw [FD (by omega), hcl]; exact h1
  rw [List.length_reverse, FD (by omega), hcl, show r.length + 1 - 1 - (r.length + 1 - 1) = 0 by omega]; exact h0
 ·rcases hcc with rfl | rfl
  ·omega
  rw [List.length_reverse]; omega
 ·rcases hcc with rfl | rfl
  ·omega
  rw [List.length_reverse]; omega
 rw [hs e, JU hV hst.way he]
 unfold chainOf
 rw [if_pos hf]; rfl
theorem P6 (hV : Vld N es) {k : Nat} (hk : k < es.length) (hf : ¬ FreeC es k) {l c : List Int} (hl : l = (goL es (2 * (k : Int) + 1) (wayT es (2 * k + 1))).reverse ++ (goL es (2 * (k : Int)) (wayT es (2 * k))).drop 2)
  (hc : ∀ x y, l[0]? = some x → l[l.length - 1]? = some y → (c = l ∧ x ≤ y) ∨ (c = l.reverse ∧ y ≤ x)) : ChnR es k c := by
 have hst := Bz hV (Cy hk)
 have hst' := Bz hV (C7 hk)
 have hlt := hst.way.lt hV
 have hlt' := hst'.way.lt hV
 obtain ⟨T, hT⟩ : ∃ T, T = wayT es (2 * k) := ⟨_, rfl⟩
 obtain ⟨T', hT'⟩ : ∃ T, T = wayT es (2 * k + 1) := ⟨_, rfl⟩
 have hA := Ou hV hk hf
 have hB : endB es k = toV es (wI es (2 * k) (wayT es (2 * k))) := rfl
 rw [← hT'] at hst' hlt' hA
 rw [← hT] at hst hlt hB
 rw [← hT, ← hT'] at hl
 obtain ⟨u, hu⟩ : ∃ u, u = fromV es (2 * (k : Int)) := ⟨_, rfl⟩
 obtain ⟨v, hv⟩ : ∃ v, v = toV es (2 * (k : Int)) := ⟨_, rfl⟩
 have e1 : fromV es (2 * (k : Int) + 1) = v := by rw [← Fs, CL (Cy hk), hv]
 have e2 : toV es (2 * (k : Int) + 1) = u := by rw [← Fs, IM (Cy hk), hu]
 obtain ⟨rt, hrt⟩ : ∃ rt, goL es (2 * (k : Int)) T = u :: v :: rt := ⟨(wayL es (2 * (k : Int)) T).tail.map (toV es), by
  unfold goL wayL; rw [List.range_succ_eq_map]; simp [wI, hu, hv]⟩
 obtain ⟨rb, hrb⟩ : ∃ rb, goL es (2 * (k : Int) + 1) T' = v :: u :: rb := ⟨(wayL es (2 * (k : Int) + 1) T').tail.map (toV es), by
  unfold goL wayL; rw [List.range_succ_eq_map]; simp [wI, e1, e2]⟩
 have hlb := D8 es (2 * (k : Int) + 1) T'
 have hlr := D8 es (2 * (k : Int)) T
 have lastb := FQ (es := es) (2 * (k : Int) + 1) T'
 have lastt := FQ (es := es) (2 * (k : Int)) T
 rw [hrb] at hlb lastb
 rw [hrt] at hlr lastt
 simp at hlb hlr
 have hl2 : l = rb.reverse ++ u :: v :: rt := by rw [hl, hrt, hrb]; simp
 have hll : l.length = T + T' + 2 := by rw [hl2]; simp; omega
 have x0 : l[0]? = some (endA es k) := by
  rw [hA, ← lastb, hl2]
  cases rb with
  | nil => simp at hlb; subst hlb; rfl
  | cons a b =>
   have : (v :: u :: a :: b).length = T' + 2 := by simp at hlb ⊢; omega
   rw [TK (by simp), FD (by simp)]
   rw [show T' + 1 = (a :: b).length - 1 - 0 + 2 by simp at hlb ⊢; omega]
   rfl
 have y0 : l[l.length - 1]? = some (endB es k) := by
  rw [hB, ← lastt, hll, hl2, TL (by simp; omega)]
  congr 1
  simp; omega
 have hs : ∀ (j : Nat) e, es[j]? = some e → (stp l e ↔ ∃ x, x ∈ chainOf es k ∧ x / 2 = j) := by
  intro j e he
  have s1 := JU hV hst.way he
  have s2 := JU hV hst'.way he
  rw [hrt] at s1
  rw [hrb] at s2
  have s3 : stp l e ↔ stp (v :: u :: rb) e ∨ stp (u :: v :: rt) e := by
   have q1 : l = (rb.reverse ++ [u]) ++ v :: rt := by rw [hl2]; simp
   have q2 : (v :: u :: rb).reverse = (rb.reverse ++ [u]) ++ [v] := by simp
   rw [q1, Ew, ← q2, GT]
   constructor
   ·rintro (h | h)
    ·exact .inl h
    exact .inr (.inr h)
   rintro (h | h | h)
   ·exact .inl h
   ·exact .inl (.inl (Lg.1 h))
   exact .inr h
  rw [s3, s1, s2]
  unfold chainOf
  rw [if_neg hf]
  have w1 : wayOf es (2 * (k : Int)) = wayL es (2 * k) T := by unfold wayOf; rw [← hT]
  have w2 : wayOf es (2 * (k : Int) + 1) = wayL es (2 * k + 1) T' := by unfold wayOf; rw [← hT']
  rw [w1, w2]
  obtain ⟨tb, htb⟩ : ∃ tb, wayL es (2 * (k : Int) + 1) T' = (2 * (k : Int) + 1) :: tb := ⟨_, by unfold wayL; rw [List.range_succ_eq_map]; rfl⟩
  have hin : (2 * (k : Int)) ∈ wayL es (2 * (k : Int)) T := by unfold wayL; rw [List.range_succ_eq_map]; simp [wI]
  have twd : ∀ x : Int, 0 ≤ x → tw x / 2 = x / 2 := fun x hx => by unfold tw; split <;> omega
  have hall := DW hV hst'.way
  rw [htb] at hall
  rw [htb, List.tail_cons]
  constructor
  ·rintro (⟨x, hx, hxj⟩ | ⟨x, hx, hxj⟩)
   ·rcases List.mem_cons.1 hx with rfl | hx'
    ·exact ⟨_, List.mem_append_right _ hin, by omega⟩
    exact ⟨tw x, List.mem_append_left _ (by unfold aboutL; rw [List.mem_map]; exact ⟨x, by simpa using hx', rfl⟩), by rw [twd x (hall x hx).1]; exact hxj⟩
   exact ⟨x, List.mem_append_right _ hx, hxj⟩
  rintro ⟨x, hx, hxj⟩
  rcases List.mem_append.1 hx with hx | hx
  ·unfold aboutL at hx
   obtain ⟨y, hy, rfl⟩ := List.mem_map.1 hx
   have hy' : y ∈ tb := by simpa using hy
   have := twd y (hall y (TM _ hy')).1
   exact .inl ⟨y, TM _ hy', by omega⟩
  exact .inr ⟨x, hx, hxj⟩
 rcases hc _ _ x0 y0 with ⟨rfl, hxy⟩ | ⟨rfl, hxy⟩
 ·refine ⟨⟨_, _, x0, y0, fun h => h, fun h => ⟨?_, ?_⟩⟩, by omega, by omega, hs⟩
  ·rw [Int.min_eq_left hxy]
  rw [Int.max_eq_right hxy]
 refine ⟨⟨endB es k, endA es k, ?_, ?_, fun h => h.symm, fun h => ⟨?_, ?_⟩⟩, by rw [List.length_reverse]; omega, by rw [List.length_reverse]; omega, fun j e he => by rw [GT]; exact hs j e he⟩
 ·rw [FD (by omega)]; exact y0
 ·rw [List.length_reverse, FD (by omega), show l.length - 1 - (l.length - 1) = 0 by omega]; exact x0
 ·rw [Int.min_eq_right hxy]
 rw [Int.max_eq_left hxy]
end
theorem Hx {n k : Nat} {es : List Pr} {va vd : Value} {w : World} (hg : PrV w va es) (hd : SlV w vd (tab n (cnt es))) (hV : Vld n es) (hk : k < es.length) :
  Calls Tryz.prog 103 #[.agg #[.int .i64 n, va], vd, .int .i64 k] w (Ret w [] fun r M => ∃ c, M = [slc r 3 1 (ints c)] ∧ ChnR es k c) := by
 have hfew := hV.few
 have hg0 := hg
 have hd0 := hd
 obtain ⟨A, cap, rfl, hr, hlc, hcm, hle⟩ := hg
 obtain ⟨B, capd, rfl, hrd, _, _, _⟩ := hd
 rw [tab_length] at hd0
 rw [tab_length]
 obtain ⟨e, he⟩ : ∃ e, es[k]? = some e := ⟨_, Tz hk⟩
 obtain ⟨ad, rfl, hU, hVe⟩ := hr.pair he
 have vh0 := Cy (es := es) hk
 have vh1 := C7 (es := es) hk
 have hv0 := Co he rfl rfl
 have f0 : fromV es (2 * (k : Int)) = e.1 := hv0.fr
 have t0 : toV es (2 * (k : Int)) = e.2 := hv0.to
 have f1 : fromV es (2 * (k : Int) + 1) = e.2 := by rw [← Fs, CL vh0, t0]
 have hst := Bz hV vh0
 have hst' := Bz hV vh1
 have hlt := hst.way.lt hV
 have hlt' := hst'.way.lt hV
 have hgl := D8 es (2 * (k : Int)) (wayT es (2 * k))
 have hgl' := D8 es (2 * (k : Int) + 1) (wayT es (2 * k + 1))
 have hwt := hst.way.all hV _ (Nat.le_refl _)
 obtain ⟨l0, l1⟩ := Kv hV hwt
 obtain ⟨u0, u1⟩ := HZ hV vh0
 have hlast := FQ (es := es) (2 * (k : Int)) (wayT es (2 * k))
 have dg : ∀ x : Int, 0 ≤ x → x < n → ∃ ad, B = some ad ∧ w.cell? (ad.add x.toNat) = some (.int .i64 (degV es x : Nat)) := fun x h0 h1 => by
  obtain ⟨ad, e, hc⟩ := hrd _ _ (BL (Bw (cnt es) (show x.toNat < n by omega)))
  refine ⟨ad, e, ?_⟩
  rw [hc]; unfold cnt degV; rw [Int.toNat_of_nonneg h0]
 obtain ⟨adB, rfl, cu⟩ := dg _ u0 u1
 obtain ⟨adB', e', cl⟩ := dg _ l0 l1
 cases e'
 refine Ao (K := []) (args := [_, _, _]) (L := []) Tryz.func103 rfl Tryz.ntmps103 rfl (Own.start _ _) ?_
 refine Zs ?_
 refine Zw (Ba rfl rfl rfl) fun g3 => ?_
 refine Za ?_
 refine Zx <| Zs ?_
 refine Zf Be ?_
 refine Zl Bu ?_
 refine Zm ?_
 refine Zo (AM (ad' := ad.add (k * 2)) rfl rfl rfl TU AY (by omega) (by omega) rfl) ?_
 refine Zo (Bq (ad' := ad.add (k * 2)) rfl rfl Bb (by simp [Addr.add])) ?_
 refine Zu (Ai rfl rfl AJ (Aw hU)) ?_
 refine Za ?_
 refine Zx <| Zs ?_
 refine Zf Be ?_
 refine Zl Bu ?_
 refine Zm ?_
 refine Zo (AM (ad' := ad.add (k * 2)) rfl rfl rfl TU AY (by omega) (by omega) rfl) ?_
 refine Zo (Bq (ad' := ad.add (k * 2 + 1)) rfl rfl Bk (B6 _ _ _ (by decide))) ?_
 refine Zu (Ai rfl rfl AJ (Aw hVe)) ?_
 refine Za ?_
 refine Zx <| Zs ?_
 refine Zu (Ay (vs := [_, _]) rfl rfl Bn Bg rfl (Ak rfl)) ?_
 iterate 3 refine Zm ?_
 refine Seq.rel rfl rfl (Ar Rn rfl rfl rfl (fun w hw => by
  have := GD (h := 2 * (k : Int)) (hg0.keep0 hw) (hd0.keep0 hw) hV vh0
  rw [f0, show 2 * (k : Int) / 2 = k by omega] at this
  exact this)) ?_
 rintro v9 _ rfl
 refine Za ?_
 refine Zx <| DC.seq ?_
 simp only [zs]
 refine DT 0 rfl (by omega) ?_
 rintro ⟨A9, c9, rfl⟩
 refine MV 0 rfl ?_
 intro h9
 obtain ⟨ad9, rfl⟩ := h9 (by omega)
 rw [hgl]
 refine DC.region ?_
 iterate 2 refine Zm ?_
 refine Zn TT ?_
 refine Zo (Bv rfl rfl rfl (by omega)) ?_
 refine Zo (Aj (ad' := ad9.add (wayT es (2 * k) + 1)) rfl rfl rfl TT AQ (by omega) (by omega) (by congr 1; omega)) ?_
 refine Zu (Ai rfl rfl AJ ((fun w hw => BB (i := 0) rfl w hw _ _ (BL hlast)))) ?_
 refine Za ?_
 refine Zx <| DC.seq ?_
 refine DC.cut (ι := Bool) (fun b => b = true ↔ FreeC es k) (fun b => [(1, .slice (some adB) n capd), (2, .int .i64 (k : Nat)), (3, .pointer (some ⟨g3, 0, none⟩)), (8, .int .i64 e.2), (9, .slice (some ad9) (wayT es (2 * k) + 2) c9), (48, .bool b)])
  (fun _ => [slc (.slice (some ad9) (wayT es (2 * k) + 2) c9) 3 1 (ints (goL es (2 * (k : Int)) (wayT es (2 * k)))), blk g3 24 #[.int .i64 n, .slice (some ad) es.length cap]]) ?first5 ?rest5
 case first5 =>
  rw [← f0]
  refine DC.region ?_
  iterate 2 refine Zm ?_
  refine Zo (Aj (ad' := adB.add (fromV es (2 * (k : Int))).toNat) rfl rfl rfl TT AQ u0 u1 rfl) ?_
  refine Zu (Ai rfl rfl AJ (Aw cu)) ?_
  refine Zo (AN rfl rfl rfl) ?_
  refine Zm ?_
  refine Seq.split 42 rfl (fun k5_5 => ?_) (fun k5_5 => ?_)
  ·refine Zm ?_
   refine Zm ?_
   refine Zo (Aj (ad' := adB.add (toV es (wI es (2 * k) (wayT es (2 * k)))).toNat) rfl rfl rfl TT AQ l0 l1 rfl) ?_
   refine Zu (Ai rfl rfl AJ (Aw cl)) ?_
   refine Zo (AN rfl rfl rfl) ?_
   refine Zt ?_
   refine Seq.nil ?_
   refine AG (decide (((degV es (toV es (wI es (2 * k) (wayT es (2 * k)))) : Nat) : Int) = 2)) ?_ ⟨rfl, rfl, rfl, rfl, rfl, rfl, trivial⟩ (.cons 0 rfl (.cons 0 rfl .nil))
   rw [decide_eq_true_iff]
   have hdu : degV es (fromV es (2 * (k : Int))) = 2 := by simp at k5_5; omega
   constructor
   ·intro h
    refine ⟨?_, hdu⟩
    have h2 : degV es (toV es (wI es (2 * k) (wayT es (2 * k)))) = 2 := by omega
    apply Classical.byContradiction
    intro hne
    exact hst.stop ⟨h2, hne⟩
   intro h
   rw [h.1, h.2]; rfl
  iterate 5 refine Zk ?_
  refine Zg ?_
  refine Seq.nil ?_
  refine AG false ?_ ⟨rfl, rfl, rfl, rfl, rfl, rfl, trivial⟩ (.cons 0 rfl (.cons 0 rfl .nil))
  simp only [Bool.false_eq_true, false_iff]
  intro h
  have := h.2
  simp at k5_5; omega
 rintro b hb
 refine Zd (fun c5 => ?_) fun c5 => ?_
 ·have hF := hb.1 c5
  obtain ⟨r, z, hrz⟩ : ∃ r z, goL es (2 * (k : Int)) (wayT es (2 * k)) = r ++ [z] := ⟨(goL es (2 * (k : Int)) (wayT es (2 * k))).dropLast, (goL es (2 * (k : Int)) (wayT es (2 * k))).getLast (by intro h; rw [h] at hgl; simp at hgl), (List.dropLast_concat_getLast _).symm⟩
  have hrl := congrArg List.length hrz
  rw [hgl, List.length_append] at hrl
  simp at hrl
  refine Zs ?_
  refine Zm ?_
  refine Seq.rel rfl rfl (Ar S5 rfl rfl rfl (fun w hw => Hw (r := r) (z := z) (by have := Ck hw 0 rfl (by omega); rw [hrz] at this; exact this) (by omega) (by omega))) ?_
  rintro v50 _ ⟨c, rfl, hc⟩
  refine Za ?_
  refine Zx <| DC.ret <| Aa ?_
  refine Fin.weak (E' := [(6, _)]) ⟨rfl, trivial⟩ (.cons 0 rfl .nil) ?_
  refine Zh ?_
  exact ⟨c, rfl, P7 hV hk hF hrz hc⟩
 have hF : ¬ FreeC es k := fun h => by rw [hb.2 h] at c5; cases c5
 refine DC.skip <| Fin.then <| Zs ?_
 refine Zu (Ay (vs := [_, _]) rfl rfl Bn Bg rfl (Ak rfl)) ?_
 iterate 3 refine Zm ?_
 refine Seq.rel rfl rfl (Ar Rn rfl rfl rfl (fun w hw => by
  have := GD (h := 2 * (k : Int) + 1) (hg0.keep0 hw) (hd0.keep0 hw) hV vh1
  rw [f1, show (2 * (k : Int) + 1) / 2 = k by omega] at this
  exact this)) ?_
 rintro v11 _ rfl
 refine Za ?_
 refine Zx <| DC.seq ?_
 simp only [zs]
 refine DC.region ?_
 refine Zm ?_
 refine Seq.rel rfl rfl (Ar Lz rfl rfl rfl (fun w hw => Cg (Ck hw 0 rfl (by omega)) (by omega))) ?_
 rintro v12 _ rfl
 refine Za ?_
 refine Zx <| DC.seq <| DC.seq ?_
 simp only [zs]
 refine DC.region ?_
 refine Za ?_
 refine Zx <| DC.block ?_
 refine DC.loop (ι := GoI) (fun j => j.t ≤ wayT es (2 * k)) (fun j => [(9, .slice (some ad9) (wayT es (2 * k) + 2) c9), (12, j.v), (13, .int .i64 (j.t + 2 : Nat))])
  (fun j => [slc j.v 3 1 (ints ((goL es (2 * (k : Int) + 1) (wayT es (2 * k + 1))).reverse ++ ((goL es (2 * (k : Int)) (wayT es (2 * k))).drop 2).take j.t)), slc (.slice (some ad9) (wayT es (2 * k) + 2) c9) 3 1 (ints (goL es (2 * (k : Int)) (wayT es (2 * k))))]) (fun j => wayT es (2 * k) - j.t) ⟨0, v12⟩ (Nat.zero_le _) ⟨rfl, rfl, rfl, trivial⟩ (.cons' 0 rfl (by simp) (.cons 1 rfl .nil)) ?_
 rintro ⟨i, v⟩ hi
 dsimp only at hi ⊢
 refine DC.seq <| Zs ?_
 iterate 2 refine Zm ?_
 refine Zn TT ?_
 refine Zc ?_
 refine Zx ?_
 refine Zd (fun c10 => ?_) fun c10 => ?_
 ·have hlt2 : i < wayT es (2 * k) := by simp at c10; omega
  obtain ⟨x, hx⟩ : ∃ x, (goL es (2 * (k : Int)) (wayT es (2 * k)))[i + 2]? = some x := ⟨_, Tz (by omega)⟩
  have htk : ((goL es (2 * (k : Int)) (wayT es (2 * k))).drop 2).take (i + 1) = ((goL es (2 * (k : Int)) (wayT es (2 * k))).drop 2).take i ++ [x] := by
   rw [List.take_add_one, List.getElem?_drop, show 2 + i = i + 2 by omega, hx]; rfl
  refine DC.skip <| Fin.then <| DC.seq <| DC.block <| DC.region ?_
  iterate 3 refine Zm ?_
  refine Zo (Aj (ad' := ad9.add (i + 2)) rfl rfl rfl TT AQ (by omega) (by omega) (by rw [TC])) ?_
  refine Zu (Ai rfl rfl AJ ((fun w hw => BB (i := 1) rfl w hw _ _ (BL hx)))) ?_
  refine Zw (AP (cs := #[_]) rfl rfl TT AQ B0 rfl (by decide) (by decide) rfl rfl) fun g69 => ?_
  refine Seq.gen rfl rfl (AK (F := [blk g69 3 #[.int .i64 x], slc (.slice (some ad9) (wayT es (2 * k) + 2) c9) 3 1 (ints (goL es (2 * (k : Int)) (wayT es (2 * k))))]) (vs := ints ((goL es (2 * (k : Int) + 1) (wayT es (2 * k + 1))).reverse ++ ((goL es (2 * (k : Int)) (wayT es (2 * k))).drop 2).take i)) (k := 1) (news := [.int .i64 x]) rfl rfl rfl TT AQ DE B0 rfl (by decide) (by decide)
   (fun w hw => hw.pick (.cons 1 rfl (.cons 0 rfl (.cons 0 rfl .nil)))) (.inl ⟨_, _, rfl, Ak rfl⟩) rfl (Bm [x] []) (by rw [ints_length, List.length_append, List.length_reverse, List.length_take]; omega)) ?_
  rintro v70 _ rfl
  refine Za ?_
  refine Seq.nil <| Fin.inBlock <| Fin.then <| DC.region ?_
  refine Zm ?_
  refine Zp ?_
  refine Za ?_
  refine Seq.nil ?_
  refine Ag ⟨i + 1, v70⟩ (by dsimp only; omega) (by dsimp only; omega) ⟨rfl, rfl, rfl, trivial⟩ (.cons' 0 rfl (by dsimp only; rw [htk, ← List.append_assoc, AU _ [x]]; rfl) (.cons 1 rfl .nil))
 refine DC.exit <| Ad <| Ad <| Ah <| Fin.then <| DC.seq ?_
 have hie : i = wayT es (2 * k) := by simp at c10; omega
 subst hie
 rw [List.take_of_length_le (by rw [List.length_drop]; omega)]
 have hll : ((goL es (2 * (k : Int) + 1) (wayT es (2 * k + 1))).reverse ++ (goL es (2 * (k : Int)) (wayT es (2 * k))).drop 2).length = wayT es (2 * k + 1) + wayT es (2 * k) + 2 := by
  rw [List.length_append, List.length_reverse, List.length_drop]; omega
 refine DC.region ?_
 refine Zm ?_
 refine Seq.gen rfl rfl (Bh Rm rfl rfl rfl (Lc := [slc v 3 1 (ints ((goL es (2 * (k : Int) + 1) (wayT es (2 * k + 1))).reverse ++ (goL es (2 * (k : Int)) (wayT es (2 * k))).drop 2))]) (F := [slc (.slice (some ad9) (wayT es (2 * k) + 2) c9) 3 1 (ints (goL es (2 * (k : Int)) (wayT es (2 * k))))]) (.refl _) (fun k hk => hk) (fun w hw => DH (hw.pick (.cons 0 rfl .nil)).self (by omega) (by omega))) ?_
 rintro v72 _ ⟨_, ⟨c, rfl, _, hc⟩, rfl⟩
 refine Za ?_
 refine Zx <| DC.ret ?_
 refine Fin.weak (E' := [(6, _)]) ⟨rfl, trivial⟩ (.cons 0 rfl .nil) ?_
 refine Zh ?_
 exact ⟨c, rfl, P6 hV hk hF rfl hc⟩
end Go.Fl

namespace Go.Fl
open Go Go.Proofs
open Classical
theorem En {n : Nat} {es : List Pr} {va : Value} {w : World} (hg : PrV w va es) (hV : Vld n es) :
  Calls Tryz.prog 66 #[.agg #[.int .i64 n, va]] w (Ret w [] fun r L => ∃ g, r = .tuple #[.slice (some ⟨g, 0, none⟩) n n, .int .i64 0] ∧ L = [blk g 3 (ints (tab n (cnt es))).toArray]) := by
 have hg0 := hg
 have hfew := hV.few
 have hnm := hV.hi
 obtain ⟨A, cap, rfl, hr, hlc, hcm, hle⟩ := hg
 refine Ao (K := []) (args := [_]) (L := []) Tryz.func66 rfl Tryz.ntmps66 rfl (Own.start _ _) ?_
 refine Zs ?_
 refine Zw (Ba rfl rfl rfl) fun g1 => ?_
 iterate 2 refine Za ?_
 refine Zx <| Zs ?_
 refine Zu (Ay (vs := [_, _]) rfl rfl Bn Bg rfl (Ak rfl)) ?_
 refine Seq.rel0 rfl rfl (Ar MC rfl rfl rfl (fun w hw => B2 (hg0.keep0 hw))) ?_
 rintro _ ⟨bv, rfl, hbv⟩
 refine Za ?_
 refine Zx <| DC.seq <| Zs ?_
 refine Zm ?_
 refine Zo (Bd rfl rfl) ?_
 refine Zx ?_
 refine Zd (fun c2 => ?_) fun c2 => ?_
 ·rw [hbv.2 hV] at c2
  simp at c2
 refine DC.skip <| Fin.then <| Zs ?_
 refine Zf BI ?_
 refine Zl AJ ?_
 refine Zw (Ca (k := n) rfl rfl rfl TT AQ DE B0 rfl (by omega) (by omega) (Ch n)) fun g13 => ?_
 refine Za ?_
 refine Zx <| DC.seq <| Zs ?_
 refine Za ?_
 refine Zx <| DC.block ?_
 refine DC.loop (ι := DegI) (fun j => j.i ≤ es.length)
  (fun j => [(1, .pointer (some ⟨g1, 0, none⟩)), (5, .slice (some ⟨g13, 0, none⟩) n n), (6, .int .i64 (j.i : Nat))])
  (fun j => [blk g13 3 (ints (tab n (degA es j.i))).toArray, blk g1 24 #[.int .i64 n, .slice A es.length cap]]) (fun j => es.length - j.i) ⟨0⟩ (Nat.zero_le _) ⟨rfl, rfl, rfl, trivial⟩ (.cons' 0 rfl (Cz fun _ _ => by simp [degA, cnt, outs, outsF]) (.cons 0 rfl .nil)) ?_
 rintro ⟨i⟩ hi
 dsimp only at hi ⊢
 refine DC.seq <| Zs ?_
 refine Zm ?_
 refine Zf Be ?_
 refine Zl Bu ?_
 refine Zn TU ?_
 refine Zc ?_
 refine Zx ?_
 refine Zd (fun c6 => ?_) fun c6 => ?_
 ·have hlt : i < es.length := by simpa using c6
  obtain ⟨e, he⟩ : ∃ e, es[i]? = some e := ⟨_, Tz hlt⟩
  obtain ⟨ad, rfl, hU, hVe⟩ := hr.pair he
  have ho := hV.ok i e he
  obtain ⟨u, hu⟩ := TJ ho.lo
  obtain ⟨v, hv⟩ := TJ (show 0 ≤ e.2 by have := ho.lo; have := ho.lt; omega)
  obtain rfl : e = ((u : Int), (v : Int)) := Prod.ext hu hv
  clear hu hv
  have huv : u < v := by have := ho.lt; simp at this; exact this
  have hvN : v < n := by have := ho.hi; simp at this; exact this
  replace hU : w.cell? (ad.add (i * 2)) = some (.int .i64 (u : Int)) := hU
  replace hVe : w.cell? (ad.add (i * 2 + 1)) = some (.int .i64 (v : Int)) := hVe
  have b1 : ∀ (x : Nat), 0 ≤ degA es i x ∧ degA es i x ≤ 4194304 := fun x => by
   have := EY (es.take i) 0 x
   simp only [List.length_take] at *
   unfold degA cnt outs; omega
  have b2 := b1 u
  have b3 := b1 v
  have b4 : upd (degA es i) u (degA es i u + 1) v = degA es i v := by unfold upd; rw [if_neg (by omega)]
  refine DC.skip <| Fin.then <| DC.seq <| DC.block <| Zs ?_
  refine Zm ?_
  refine Zf Be ?_
  refine Zl Bu ?_
  refine Zm ?_
  refine Zo (AM (ad' := ad.add (i * 2)) rfl rfl rfl TU AY (by omega) (by omega) rfl) ?_
  refine Zo (Bq (ad' := ad.add (i * 2)) rfl rfl Bb (by simp [Addr.add])) ?_
  refine Zu (Ai rfl rfl AJ (Aw hU)) ?_
  refine Zo (Aj (ad' := ⟨g13, u, none⟩) rfl rfl rfl TT AQ (by omega) (by omega) (by rw [AC]; rfl)) ?_
  refine Zu (Ai rfl rfl AJ (Bi (Bt (by omega)))) ?_
  refine Zp ?_
  refine Zo (Aj (ad' := ⟨g13, u, none⟩) rfl rfl rfl TT AQ (by omega) (by omega) (by rw [AC]; rfl)) ?_
  refine Zy (AE (cs' := (ints (tab n (upd (degA es i) u (degA es i u + 1)))).toArray) rfl rfl rfl AQ rfl (by simp; omega) BR) ?_
  refine Zx <| DC.region ?_
  refine Zm ?_
  refine Zf Be ?_
  refine Zl Bu ?_
  refine Zm ?_
  refine Zo (AM (ad' := ad.add (i * 2)) rfl rfl rfl TU AY (by omega) (by omega) rfl) ?_
  refine Zo (Bq (ad' := ad.add (i * 2 + 1)) rfl rfl Bk (B6 _ _ _ (by decide))) ?_
  refine Zu (Ai rfl rfl AJ (Aw hVe)) ?_
  refine Zo (Aj (ad' := ⟨g13, v, none⟩) rfl rfl rfl TT AQ (by omega) (by omega) (by rw [AC]; rfl)) ?_
  refine Zu (Ai rfl rfl AJ (Bi (Bt hvN))) ?_
  refine Zo (CI rfl rfl rfl (by rw [b4]; omega)) ?_
  refine Zo (Aj (ad' := ⟨g13, v, none⟩) rfl rfl rfl TT AQ (by omega) (by omega) (by rw [AC]; rfl)) ?_
  refine Zy (AE (cs' := (ints (tab n (upd (upd (degA es i) u (degA es i u + 1)) v (upd (degA es i) u (degA es i u + 1) v + 1)))).toArray) rfl rfl rfl AQ rfl (by simp; omega) BR) ?_
  refine Seq.nil <| Fin.inBlock <| Fin.then <| DC.region ?_
  refine Zm ?_
  refine Zp ?_
  refine Za ?_
  refine Seq.nil ?_
  refine Ag ⟨i + 1⟩ (by dsimp only; omega) (by dsimp only; omega) ⟨rfl, rfl, rfl, trivial⟩ (.cons' 0 rfl (Cz fun x _ => Jg he (by omega) x) (.cons 0 rfl .nil))
 refine DC.exit <| Ad <| Ad <| Ah <| Fin.then <| Zs ?_
 refine Zm ?_
 iterate 2 refine Za ?_
 refine Zx <| DC.ret ?_
 have hin : i = es.length := by simp at c6; omega
 subst hin
 refine Fin.weak (E' := [(2, _), (3, _)]) ⟨rfl, rfl, trivial⟩ (.cons 0 rfl .nil) ?_
 refine AL (.inl rfl) rfl rfl rfl ?_
 exact ⟨g13, rfl, by rw [Cz (g := cnt es) fun v _ => by simp [degA]]⟩
theorem Ip {P : Program} {w0 : World} {K : List Nat} {n : Nat} {ds : List Deferred} {E : Env} {L : List Chunk} {v : Value} {Q : Exit → Act → World → Prop} {c : Code} {t : Nat} {vs : List Value} (i : Nat) (hi : L[i]? = some (slc v t 1 vs)) (h : (∃ A c, v = .slice A vs.length c) → DC P w0 K n ds Q c E L) : DC P w0 K n ds Q c E L := by
 intro a w ha hw
 obtain ⟨A, len, cap, e, hl, _⟩ := BW (hw.perm (AO hi).symm)
 rw [Nat.mul_one] at hl
 exact h ⟨A, cap, by rw [hl]; exact e⟩ a w ha hw
theorem MW {P : Program} {w0 : World} {K : List Nat} {n : Nat} {ds : List Deferred} {E : Env} {L : List Chunk} {Q : Exit → Act → World → Prop} {cd : Code} {t l c : Nat} {A : Option Addr} {vs : List Value} (i : Nat) (hi : L[i]? = some (slc (.slice A l c) t 1 vs)) (h : (0 < vs.length → ∃ ad, A = some ad) → DC P w0 K n ds Q cd E L) : DC P w0 K n ds Q cd E L := by
 intro a w ha hw
 refine h (fun h0 => ?_) a w ha hw
 obtain ⟨A', len, cap, e, _, hR, _⟩ := BW (hw.perm (AO hi).symm)
 cases e
 obtain ⟨ad, e, _⟩ := hR 0 _ (Tz h0)
 exact ⟨ad, e⟩
/-- The places of a number in a list. -/
def plcs (l : List Int) (d : Int) (k : Nat) : List Int := ((List.range k).filter fun (i : Nat) => decide (l[i]? = some d)).map fun (i : Nat) => (i : Int)
theorem NX {l : List Int} {d x : Int} {k : Nat} (hx : l[k]? = some x) : plcs l d (k + 1) = plcs l d k ++ if x = d then [(k : Int)] else [] := by
 unfold plcs
 rw [List.range_succ, List.filter_append, List.map_append]
 congr 1
 by_cases h : x = d
 ·simp [hx, h]
 simp [hx, h]
theorem EC (l : List Int) (d : Int) (k : Nat) : (plcs l d k).length ≤ k := by
 unfold plcs
 rw [List.length_map]
 have := List.length_filter_le (fun (i : Nat) => decide (l[i]? = some d)) (List.range k)
 simpa using this
theorem KM {l : List Int} {d : Int} {v : Value} {w : World} (hl : SlV w v l) (hn : l.length ≤ 1000000000) :
  Calls Tryz.prog 68 #[v, .int .i64 d] w (Ret w [] fun r M => M = [slc r 3 1 (ints (plcs l d l.length))]) := by
 obtain ⟨A, cap, rfl, hr, hlc, hcm, hle⟩ := hl
 refine Ao (K := []) (args := [_, _]) (L := []) Tryz.func68 rfl Tryz.ntmps68 rfl (Own.start _ _) ?_
 refine Zs ?_
 refine Za ?_
 refine Zx <| Zs ?_
 refine Za ?_
 refine Zx <| DC.seq <| Zs ?_
 refine Za ?_
 refine Zx <| DC.block ?_
 refine DC.own (fun w hw => AX (t := 3) (m := 1) hw) ?_
 refine DC.loop (ι := GoI) (fun j => j.t ≤ l.length) (fun j => [(0, .slice A l.length cap), (1, .int .i64 d), (5, j.v), (6, .int .i64 (j.t : Nat))]) (fun j => [slc j.v 3 1 (ints (plcs l d j.t))]) (fun j => l.length - j.t) ⟨0, .slice none 0 0⟩ (Nat.zero_le _) ⟨rfl, rfl, rfl, rfl, trivial⟩ (.cons 0 rfl .nil) ?_
 rintro ⟨i, v⟩ hi
 dsimp only at hi ⊢
 have hpl := EC l d i
 refine DC.seq <| Zs ?_
 iterate 2 refine Zm ?_
 refine Zn TT ?_
 refine Zc ?_
 refine Zx ?_
 refine Zd (fun c3 => ?_) fun c3 => ?_
 ·have hlt : i < l.length := by simpa using c3
  obtain ⟨x, hx⟩ : ∃ x, l[i]? = some x := ⟨_, Tz hlt⟩
  obtain ⟨ad, rfl, hc⟩ := hr.int hx
  have hps := NX (d := d) hx
  refine DC.skip <| Fin.then <| DC.seq <| DC.block <| Zs ?_
  iterate 2 refine Zm ?_
  refine Zo (Aj (ad' := ad.add i) rfl rfl rfl TT AQ (by omega) (by omega) (by rw [TC])) ?_
  refine Zu (Ai rfl rfl AJ (Aw hc)) ?_
  refine Zm ?_
  refine Zo (AN rfl rfl rfl) ?_
  refine Zx ?_
  refine Zd (fun c5 => ?_) fun c5 => ?_
  ·refine DC.region ?_
   iterate 2 refine Zm ?_
   refine Zw (AP (cs := #[_]) rfl rfl TT AQ B0 rfl (by decide) (by decide) rfl rfl) fun g21 => ?_
   refine Seq.gen rfl rfl (AK (F := [blk g21 3 #[.int .i64 (i : Nat)]]) (vs := ints (plcs l d i)) (k := 1) (news := [.int .i64 (i : Nat)]) rfl rfl rfl TT AQ DE B0 rfl (by decide) (by decide)
    (fun w hw => hw.pick (.cons 1 rfl (.cons 0 rfl .nil))) (.inl ⟨_, _, rfl, Ak rfl⟩) rfl (Bm [(i : Int)] []) (by rw [ints_length]; omega)) ?_
   rintro v22 _ rfl
   refine Za ?_
   refine Seq.nil <| Fin.inBlock <| Fin.then <| DC.region ?_
   refine Zm ?_
   refine Zp ?_
   refine Za ?_
   refine Seq.nil ?_
   refine Ag ⟨i + 1, v22⟩ (by dsimp only; omega) (by dsimp only; omega) ⟨rfl, rfl, rfl, rfl, trivial⟩ (.cons' 0 rfl (by dsimp only; rw [hps, if_pos (by simpa using c5), AU]; rfl) .nil)
  refine DC.skip <| Fin.inBlock <| Fin.then <| DC.region ?_
  refine Zm ?_
  refine Zp ?_
  refine Za ?_
  refine Seq.nil ?_
  refine Ag ⟨i + 1, v⟩ (by dsimp only; omega) (by dsimp only; omega) ⟨rfl, rfl, rfl, rfl, trivial⟩ (.cons' 0 rfl (by dsimp only; rw [hps, if_neg (by simpa using c5), List.append_nil]) .nil)
 refine DC.exit <| Ad <| Ad <| Ah <| Fin.then <| Zs ?_
 refine Zm ?_
 refine Za ?_
 refine Zx <| DC.ret ?_
 refine Fin.weak (E' := [(4, _)]) ⟨rfl, trivial⟩ (.cons 0 rfl .nil) ?_
 refine Zh ?_
 have hin : i = l.length := by simp at c3; omega
 subst hin
 rfl
/-- The chains that the document has from the first k edges. -/
structure RcR (es : List Pr) (k : Nat) (rs : RL) : Prop where
 len : rs.length = (selU es k).length
 at' : ∀ (j : Nat) e p, (selU es k)[j]? = some e → rs[j]? = some p → ChnR es e p.2
theorem Ge {es : List Pr} {k : Nat} {rs : RL} (h : RcR es k rs) {p : Value × List Int} (hp : p ∈ rs) : 2 ≤ p.2.length ∧ p.2.length ≤ es.length * 4 + 4 := by
 obtain ⟨j, hj⟩ := TF.1 hp
 obtain ⟨e, he⟩ : ∃ e, (selU es k)[j]? = some e := ⟨_, Tz (by have := (TA.1 hj).1; have := h.len; omega)⟩
 have := h.at' j e p he hj
 exact ⟨this.2.1, this.2.2.1⟩
theorem O2 {es : List Pr} {k : Nat} {rs : RL} (h : RcR es k rs) (hs : selU es (k + 1) = selU es k) : RcR es (k + 1) rs := ⟨by rw [hs]; exact h.len, fun j e p h1 h2 => h.at' j e p (by rw [← hs]; exact h1) h2⟩
theorem O1 {es : List Pr} {k : Nat} {rs : RL} {p : Value × List Int} (h : RcR es k rs) (hs : selU es (k + 1) = selU es k ++ [k]) (hp : ChnR es k p.2) : RcR es (k + 1) (rs ++ [p]) := by
 refine ⟨by rw [hs]; simp [h.len], fun j e q hj hq => ?_⟩
 rw [hs] at hj
 by_cases hlt : j < rs.length
 ·rw [TK (by rw [← h.len]; exact hlt)] at hj
  rw [TK hlt] at hq
  exact h.at' j e q hj hq
 have hjl := (TA.1 hq).1
 simp at hjl
 have hje : j = rs.length := by omega
 subst hje
 rw [TL (by rw [← h.len]; omega), ← h.len, Nat.sub_self] at hj
 rw [TL (by omega), Nat.sub_self] at hq
 cases hj; cases hq; exact hp
structure RcI where
 k : Nat
 v : Value
 rs : RL
structure RcJ where
 i : Nat
 b : Bool
theorem GP {n : Nat} {es : List Pr} {va : Value} {w : World} (hg : PrV w va es) (hV : Vld n es) :
  Calls Tryz.prog 67 #[.agg #[.int .i64 n, va]] w (Ret w [] fun r M => ∃ v rs, r = .tuple #[v, .int .i64 0] ∧ RcR es es.length rs ∧ M = slc v 44 1 (rowsV rs) :: rowsC 3 rs) := by
 have hg0 := hg
 have hfew := hV.few
 have hnm := hV.hi
 obtain ⟨A, cap, rfl, hr, hlc, hcm, hle⟩ := hg
 refine Ao (K := []) (args := [_]) (L := []) Tryz.func67 rfl Tryz.ntmps67 rfl (Own.start _ _) ?_
 refine Zs ?_
 refine Zw (Ba rfl rfl rfl) fun g1 => ?_
 iterate 2 refine Za ?_
 refine Zx <| Zs ?_
 refine Zu (Ay (vs := [_, _]) rfl rfl Bn Bg rfl (Ak rfl)) ?_
 refine Seq.rel rfl rfl (Ar SA rfl rfl rfl (fun w hw => En (hg0.keep0 hw) hV)) ?_
 rintro _ _ ⟨gd, rfl, rfl⟩
 refine Zm ?_
 iterate 2 refine Ze ?_
 iterate 2 refine Za ?_
 refine Zx <| DC.seq <| Zs ?_
 refine Zm ?_
 refine Zo (BK rfl rfl rfl) ?_
 refine Zx ?_
 refine Zd (fun c2 => ?_) fun c2 => ?_
 ·simp at c2
 refine DC.skip <| Fin.then <| DC.seq ?_
 simp only [zs]
 refine DC.region ?_
 refine Za ?_
 refine Zx <| DC.seq <| Zs ?_
 refine Za ?_
 refine Zx <| DC.block ?_
 refine DC.own (fun w hw => AX (t := 44) (m := 1) hw) ?_
 refine DC.loop (ι := RcI) (fun j => j.k ≤ es.length ∧ RcR es j.k j.rs) (fun j => [(1, .pointer (some ⟨g1, 0, none⟩)), (4, .slice (some ⟨gd, 0, none⟩) n n), (6, j.v), (7, .int .i64 (j.k : Nat))])
  (fun j => slc j.v 44 1 (rowsV j.rs) :: blk gd 3 (ints (tab n (cnt es))).toArray :: blk g1 24 #[.int .i64 n, .slice A es.length cap] :: rowsC 3 j.rs) (fun j => es.length - j.k) ⟨0, .slice none 0 0, []⟩ ⟨Nat.zero_le _, rfl, fun j e p h => by simp [selU] at h⟩ ⟨rfl, rfl, rfl, rfl, trivial⟩ (Pick.all _) ?_
 rintro ⟨k, v, rs⟩ ⟨hk, hR⟩
 dsimp only at hk hR ⊢
 have hsl := Ex (es := es) k
 have hrl := hR.len
 refine Ip 0 rfl ?_
 rintro ⟨Av, cv, rfl⟩
 rw [rowsV_length]
 refine DC.seq <| Zs ?_
 refine Zm ?_
 refine Zf Be ?_
 refine Zl Bu ?_
 refine Zn TU ?_
 refine Zc ?_
 refine Zx ?_
 refine Zd (fun c6 => ?_) fun c6 => ?_
 ·have hlt : k < es.length := by simpa using c6
  obtain ⟨e, he⟩ : ∃ e, es[k]? = some e := ⟨_, Tz hlt⟩
  obtain ⟨ad, rfl, hU, hVe⟩ := hr.pair he
  refine DC.skip <| Fin.then <| DC.seq <| DC.block <| Zs ?_
  refine Za ?_
  refine Zx <| DC.seq <| Zs ?_
  refine Za ?_
  refine Zx <| DC.block ?_
  refine DC.loop (ι := RcJ) (fun j => j.i ≤ rs.length ∧ (j.b = true ↔ ∃ (q : Nat) (p : Value × List Int), q < j.i ∧ rs[q]? = some p ∧ stp p.2 e)) (fun j => [(1, .pointer (some ⟨g1, 0, none⟩)), (4, .slice (some ⟨gd, 0, none⟩) n n), (6, .slice Av rs.length cv), (7, .int .i64 (k : Nat)), (8, .bool j.b), (9, .int .i64 (j.i : Nat))])
   (fun j => slc (.slice Av rs.length cv) 44 1 (rowsV rs) :: blk gd 3 (ints (tab n (cnt es))).toArray :: blk g1 24 #[.int .i64 n, .slice (some ad) es.length cap] :: rowsC 3 rs) (fun j => rs.length - j.i) ⟨0, false⟩ ⟨Nat.zero_le _, by simp⟩ ⟨rfl, rfl, rfl, rfl, rfl, rfl, trivial⟩ (Pick.all _) ?_
  rintro ⟨i, b⟩ ⟨hi, hb⟩
  dsimp only at hi hb ⊢
  refine DC.seq <| Zs ?_
  iterate 2 refine Zm ?_
  refine Zn TW ?_
  refine Zc ?_
  refine Zx ?_
  refine Zd (fun c10 => ?_) fun c10 => ?_
  ·have hil : i < rs.length := by simpa using c10
   obtain ⟨p, hp⟩ : ∃ p, rs[i]? = some p := ⟨_, Tz hil⟩
   have hps := Ge hR (TD hp)
   refine MW 0 rfl ?_
   intro hAv
   obtain ⟨av, rfl⟩ := hAv (by rw [rowsV_length]; omega)
   have hpv : (rowsV rs)[i]? = some p.1 := by simp [rowsV, hp]
   refine DC.skip <| Fin.then <| DC.seq <| DC.block <| DC.seq ?_
   refine AF (cl := [.q, .q, .q, .v, .q, .v, .q, .q, .v, .r, .q]) (A := [0, 0, 3, 7, 0, 16, 0, 112, 240, 511, 1023]) (order := [0, 1, 2, 3, 4, 5, 6, 7, 8, 9, 10]) [] mixed (by kernel_rfl) (fun w hw => hw.pick .nil) ?_
   iterate 2 refine Ym ?_
   refine Yo rfl (Aj (ad' := av.add i) rfl rfl rfl TW BE (by omega) (by omega) (by rw [TC])) ?_
   refine Am rfl rfl rfl rfl (Ai rfl rfl BA ((fun w hw => BB (i := 0) rfl w hw _ _ hpv))) ?_
   refine Yf Be ?_
   refine Yl Bu ?_
   refine Ym ?_
   refine Yo rfl (AM (ad' := ad.add (k * 2)) rfl rfl rfl TU AY (by omega) (by omega) rfl) ?_
   refine Am rfl rfl rfl rfl (Ay (vs := [_, _]) rfl rfl B3 AY rfl (Cv hU hVe (by simp))) ?_
   refine Flow.rel0 rfl rfl rfl rfl (Ar Tm rfl rfl rfl (fun w hw => Ht (l := p.2) (e := e) (Hm (F := [slc (.slice (some av) rs.length cv) 44 1 (rowsV rs), blk gd 3 (ints (tab n (cnt es))).toArray, blk g1 24 #[.int .i64 n, .slice (some ad) es.length cap]]) hw hp (by omega)))) ?_
   rintro _ ⟨bs, rfl, hbs⟩
   refine Yo rfl (AR rfl rfl) ?_
   refine Flow.end rfl ?_
   simp only [zq, zr]
   refine Fin.then <| Zs ?_
   refine Zm ?_
   refine Zx ?_
   refine Zd (fun c13 => ?_) fun c13 => ?_
   ·refine DC.region ?_
    refine Za ?_
    refine Seq.nil <| Fin.inBlock <| Fin.then <| DC.region ?_
    refine Zm ?_
    refine Zp ?_
    refine Za ?_
    refine Seq.nil ?_
    refine Ag ⟨i + 1, true⟩ (by dsimp only; omega) ⟨by dsimp only; omega, by simp only [true_iff]; exact ⟨i, p, by omega, hp, hbs.1 c13⟩⟩ ⟨rfl, rfl, rfl, rfl, rfl, rfl, trivial⟩ (Pick.all _)
   refine DC.skip <| Fin.inBlock <| Fin.then <| DC.region ?_
   refine Zm ?_
   refine Zp ?_
   refine Za ?_
   refine Seq.nil ?_
   refine Ag ⟨i + 1, b⟩ (by dsimp only; omega) ⟨by dsimp only; omega, ?_⟩ ⟨rfl, rfl, rfl, rfl, rfl, rfl, trivial⟩ (Pick.all _)
   dsimp only
   rw [hb]
   constructor
   ·rintro ⟨q, p', h1, h2, h3⟩; exact ⟨q, p', by omega, h2, h3⟩
   rintro ⟨q, p', h1, h2, h3⟩
   rcases TE.1 h1 with h1 | rfl
   ·exact ⟨q, p', h1, h2, h3⟩
   rw [hp] at h2; cases h2
   rw [hbs.2 h3] at c13; cases c13
  refine DC.exit <| Ad <| Ad <| Ah <| Fin.then <| DC.seq ?_
  have hil : i = rs.length := by simp at c10; omega
  subst hil
  have hdone : b = true ↔ ∃ e', e' ∈ selU es k ∧ ∃ x, x ∈ chainOf es e' ∧ x / 2 = k := by
   rw [hb]
   constructor
   ·rintro ⟨q, p, h1, h2, h3⟩
    obtain ⟨e', he'⟩ : ∃ e', (selU es k)[q]? = some e' := ⟨_, Tz (by omega)⟩
    exact ⟨e', TD he', ((hR.at' q e' p he' h2).2.2.2 k e he).1 h3⟩
   rintro ⟨e', he', h3⟩
   obtain ⟨q, hq⟩ := TF.1 he'
   obtain ⟨p, hp⟩ : ∃ p, rs[q]? = some p := ⟨_, Tz (by have := (TA.1 hq).1; omega)⟩
   exact ⟨q, p, by have := (TA.1 hp).1; omega, hp, ((hR.at' q e' p hq hp).2.2.2 k e he).2 h3⟩
  refine DC.region ?_
  refine Zm ?_
  refine Zo (Bd rfl rfl) ?_
  refine Zx ?_
  refine Zd (fun c15 => ?_) fun c15 => ?_
  ·have hnd : ¬ b = true := by simpa using c15
   have hse : selU es (k + 1) = selU es k ++ [k] := by
    show (if _ then _ else _) = _
    rw [if_neg (fun h => hnd (hdone.2 h))]
   refine Zs ?_
   refine Zu (Ay (vs := [_, _]) rfl rfl Bn Bg rfl (Ak rfl)) ?_
   iterate 2 refine Zm ?_
   refine Seq.rel rfl rfl (Ar Tl rfl rfl rfl (fun w hw => Hx (hg0.keep0 hw) (B4 (g := gd) hw rfl (by simp) (by omega)) hV hlt)) ?_
   rintro v49 _ ⟨c, rfl, hc⟩
   refine Za ?_
   refine Zx ?_
   simp only [zs]
   have hcl := hc.2.2.1
   refine DT 0 rfl (by omega) ?_
   rintro ⟨Ac, cc, rfl⟩
   refine DC.region ?_
   iterate 2 refine Zm ?_
   refine Zw (AP (cs := #[_]) rfl rfl TW BE Da rfl (by decide) (by decide) rfl rfl) fun g52 => ?_
   refine Seq.gen rfl rfl (Gen.shape (AK (F := blk g52 44 #[.slice Ac c.length cc] :: slc (.slice Ac c.length cc) 3 1 (ints c) :: blk gd 3 (ints (tab n (cnt es))).toArray :: blk g1 24 #[.int .i64 n, .slice (some ad) es.length cap] :: rowsC 3 rs) (vs := rowsV rs) (k := 1) (news := [.slice Ac c.length cc]) rfl rfl rfl TW BE IH Da rfl (by decide) (by decide)
    (fun w hw => hw.pick (.cons 2 rfl (.cons 0 rfl (.cons 0 rfl (Pick.all _))))) (.inl ⟨_, _, rfl, Ak rfl⟩) rfl (by intro u hu; simp at hu; subst hu; rfl) (by rw [rowsV_length]; omega))) ?_
   rintro _ _ ⟨⟨A12, l12, c12, rfl⟩, rfl⟩
   refine Za ?_
   refine Seq.nil <| Fin.inBlock <| Fin.then <| DC.region ?_
   refine Zm ?_
   refine Zp ?_
   refine Za ?_
   refine Seq.nil ?_
   refine Fin.own (M := slc (.slice A12 l12 c12) 44 1 (rowsV (rs ++ [(.slice Ac c.length cc, c)])) :: blk gd 3 (ints (tab n (cnt es))).toArray :: blk g1 24 #[.int .i64 n, .slice (some ad) es.length cap] :: rowsC 3 (rs ++ [(.slice Ac c.length cc, c)])) (fun w hw => ?_) ?_
   ·have h1 := hw.sub (.cons_cons _ (.cons _ (List.Sublist.refl _)))
    have h2 := h1.perm (L' := slc (.slice A12 l12 c12) 44 1 (rowsV rs ++ [.slice Ac c.length cc]) :: (blk gd 3 (ints (tab n (cnt es))).toArray :: blk g1 24 #[.int .i64 n, .slice (some ad) es.length cap] :: rowsC 3 rs ++ [slc (.slice Ac c.length cc) 3 1 (ints c)])) (.cons _ (List.perm_append_singleton _ (blk gd 3 (ints (tab n (cnt es))).toArray :: blk g1 24 #[.int .i64 n, .slice (some ad) es.length cap] :: rowsC 3 rs)))
    simpa [rowsV, rowsC] using h2
   refine Ag ⟨k + 1, .slice A12 l12 c12, rs ++ [(.slice Ac c.length cc, c)]⟩ (by dsimp only; omega) ⟨by dsimp only; omega, O1 hR hse hc⟩ ⟨rfl, rfl, rfl, rfl, trivial⟩ (Pick.all _)
  refine DC.skip <| Fin.inBlock <| Fin.then <| DC.region ?_
  refine Zm ?_
  refine Zp ?_
  refine Za ?_
  refine Seq.nil ?_
  have hd : b = true := by simpa using c15
  have hse : selU es (k + 1) = selU es k := by
   show (if _ then _ else _) = _
   rw [if_pos (hdone.1 hd)]
  refine Ag ⟨k + 1, .slice Av rs.length cv, rs⟩ (by dsimp only; omega) ⟨by dsimp only; omega, O2 hR hse⟩ ⟨rfl, rfl, rfl, rfl, trivial⟩ (Pick.all _)
 refine DC.exit <| Ad <| Ad <| Ah <| Fin.then <| Zs ?_
 refine Zm ?_
 iterate 2 refine Za ?_
 refine Zx <| DC.ret ?_
 have hkn : k = es.length := by simp at c6; omega
 subst hkn
 refine Fin.own (M := slc (.slice Av rs.length cv) 44 1 (rowsV rs) :: rowsC 3 rs) (fun w hw => hw.sub (.cons_cons _ (.cons _ (.cons _ (List.Sublist.refl _))))) ?_
 refine Fin.weak (E' := [(2, _), (3, _)]) ⟨rfl, rfl, trivial⟩ (Pick.all _) ?_
 refine AL (.inl rfl) rfl rfl rfl ?_
 exact ⟨_, rs, rfl, hR, rfl⟩
end Go.Fl

namespace Go.Fl
open Go Go.Proofs
/-- Lists of vertices whose ends these are. -/
def EdL (cs : List (List Int)) (E : List Pr) : Prop := cs.length = E.length ∧ ∀ (j : Nat) l, cs[j]? = some l → 1 ≤ l.length ∧ l.length ≤ 100000000 ∧ ∀ x y, l[0]? = some x → l[l.length - 1]? = some y → ∀ u v, u ≠ v → (((x = u ∧ y = v) ∨ (x = v ∧ y = u)) ↔ E[j]? = some (srt u v))
theorem MF {E : List Pr} {i : Nat} {q p : Pr} (h : E[i]? = some p) : (E.take (i + 1)).count q = (E.take i).count q + if p = q then 1 else 0 := by
 rw [List.take_add_one, h, List.count_append]
 by_cases e : p = q
 ·simp [e]
 simp [e]
structure BtI where
 i : Nat
 A : Option Addr
 l : Nat
 c : Nat
theorem Gg {cs : List (List Int)} {E : List Pr} {a b : Int} {v : Value} {w : World} (hl : LsV w v cs) (hE : EdL cs E) (hab : a ≠ b) (hn : cs.length ≤ 100000000) :
  Calls Tryz.prog 70 #[v, .int .i64 a, .int .i64 b] w (Ret w [] fun r M => ∃ A l c d, r = .tuple #[.slice A l c, .bool d] ∧ (d = true ↔ E.count (srt a b) = 1)) := by
 obtain ⟨B, capb, rfl, hrb, hlb, hcb, hleb⟩ := hl
 refine Ao (K := []) (args := [_, _, _]) (L := []) Tryz.func70 rfl Tryz.ntmps70 rfl (Own.start _ _) ?_
 refine Zs ?_
 iterate 2 refine Za ?_
 refine Zx <| Zs ?_
 refine Za ?_
 refine Zx <| Zs ?_
 refine Za ?_
 refine Zx <| DC.seq <| Zs ?_
 refine Za ?_
 refine Zx <| DC.block ?_
 refine DC.loop (ι := BtI) (fun j => j.i ≤ cs.length) (fun j => [(0, .slice B cs.length capb), (1, .int .i64 a), (2, .int .i64 b), (8, .slice j.A j.l j.c), (9, .int .i64 ((E.take j.i).count (srt a b) : Nat)), (10, .int .i64 (j.i : Nat))]) (fun _ => []) (fun j => cs.length - j.i) ⟨0, none, 0, 0⟩ (Nat.zero_le _) ⟨rfl, rfl, rfl, rfl, rfl, rfl, trivial⟩ .nil ?_
 rintro ⟨i, A0, l0, c0⟩ hi
 dsimp only at hi ⊢
 have hct : (E.take i).count (srt a b) ≤ i := by
  have h1 := List.count_le_length (a := srt a b) (l := E.take i)
  rw [List.length_take] at h1; omega
 refine DC.seq <| Zs ?_
 iterate 2 refine Zm ?_
 refine Zn TW ?_
 refine Zc ?_
 refine Zx ?_
 refine Zd (fun c4 => ?_) fun c4 => ?_
 ·have hlt : i < cs.length := by simpa using c4
  obtain ⟨l, hl⟩ : ∃ l, cs[i]? = some l := ⟨_, Tz hlt⟩
  obtain ⟨ad, lv, rfl, hcell, hS⟩ := hrb i l hl
  have hS0 := hS
  obtain ⟨A1, cap1, rfl, hr1, _, _, _⟩ := hS
  obtain ⟨hl1, hl2, hend⟩ := hE.2 i l hl
  obtain ⟨x, hx⟩ : ∃ x, l[0]? = some x := ⟨_, Tz (by omega)⟩
  obtain ⟨y, hy⟩ : ∃ y, l[l.length - 1]? = some y := ⟨_, Tz (by omega)⟩
  obtain ⟨ad1, rfl, cx⟩ := hr1.int hx
  obtain ⟨ad1', e', cy⟩ := hr1.int hy
  cases e'
  have hey := hend x y hx hy a b hab
  obtain ⟨p, hp⟩ : ∃ p, E[i]? = some p := ⟨_, Tz (by have := hE.1; omega)⟩
  have hcs := MF (q := srt a b) hp
  rw [hp, Option.some.injEq] at hey
  refine DC.skip <| Fin.then <| DC.seq <| DC.block <| Zs ?_
  iterate 2 refine Zm ?_
  refine Zo (Aj (ad' := ad.add i) rfl rfl rfl TW BE (by omega) (by omega) (by rw [TC])) ?_
  refine Zu (Ai rfl rfl BA (Aw hcell)) ?_
  refine Za ?_
  refine Zx <| Zs ?_
  refine Zm ?_
  refine Zn TT ?_
  refine Za ?_
  refine Zx <| Zs ?_
  refine Zm ?_
  refine Zo (Aj (ad' := ad1.add 0) rfl rfl rfl TT AQ (by omega) (by omega) rfl) ?_
  refine Zu (Ai rfl rfl AJ (Aw cx)) ?_
  refine Zm ?_
  refine Zo (AN rfl rfl rfl) ?_
  refine Zm ?_
  refine Seq.split 30 rfl (fun k8_5 => ?_) (fun k8_5 => ?_)
  ·refine Zm ?_
   refine Zm ?_
   refine Zo (Bv rfl rfl rfl (by omega)) ?_
   refine Zo (Aj (ad' := ad1.add (l.length - 1)) rfl rfl rfl TT AQ (by omega) (by omega) (by congr 1; omega)) ?_
   refine Zu (Ai rfl rfl AJ (Aw cy)) ?_
   refine Zm ?_
   refine Zo (AN rfl rfl rfl) ?_
   refine Zt ?_
   refine Zx ?_
   refine Zd (fun c8 => ?_) fun c8 => ?_
   ·refine Zs ?_
    refine Zm ?_
    refine Za ?_
    refine Zx <| DC.region ?_
    refine Zm ?_
    refine Zp ?_
    refine Za ?_
    refine Seq.nil <| Fin.inBlock <| Fin.then <| DC.region ?_
    refine Zm ?_
    refine Zp ?_
    refine Za ?_
    refine Seq.nil ?_
    first
    | (have hpq : p = srt a b := hey.1 (.inl ⟨by simpa using k8_5, by simpa using c8⟩)
       refine Ag ⟨i + 1, some ad1, l.length, cap1⟩ (by dsimp only; omega) (by dsimp only; omega) ⟨rfl, rfl, rfl, rfl, ?_, rfl, trivial⟩ .nil
       dsimp only; rw [hcs, if_pos hpq]; rfl)
    | (have hpq : p = srt a b := hey.1 (.inr ⟨by simpa using k11_5, by simpa using c11⟩)
       refine Ag ⟨i + 1, A57, l.reverse.length, c57⟩ (by dsimp only; omega) (by dsimp only; omega) ⟨rfl, rfl, rfl, rfl, ?_, rfl, trivial⟩ .nil
       dsimp only; rw [hcs, if_pos hpq]; rfl)
    | (have hpq : ¬ p = srt a b := fun h => by
        have h9 := hey.2 h
        first
        | (simp at k8_5 k11_5; omega)
        | (simp at k8_5 c8 k11_5 c11; omega)
        | (simp at k8_5 k11_5 c11; omega)
        | (simp at k8_5 c8 k11_5; omega)
       refine Ag ⟨i + 1, A0, l0, c0⟩ (by dsimp only; omega) (by dsimp only; omega) ⟨rfl, rfl, rfl, rfl, ?_, rfl, trivial⟩ .nil
       dsimp only; rw [hcs, if_neg hpq]; rfl)
   refine Zs ?_
   refine Zm ?_
   refine Zo (Aj (ad' := ad1.add 0) rfl rfl rfl TT AQ (by omega) (by omega) rfl) ?_
   refine Zu (Ai rfl rfl AJ (Aw cx)) ?_
   refine Zm ?_
   refine Zo (AN rfl rfl rfl) ?_
   refine Zm ?_
   refine Seq.split 47 rfl (fun k11_5 => ?_) (fun k11_5 => ?_)
   ·refine Zm ?_
    refine Zm ?_
    refine Zo (Bv rfl rfl rfl (by omega)) ?_
    refine Zo (Aj (ad' := ad1.add (l.length - 1)) rfl rfl rfl TT AQ (by omega) (by omega) (by congr 1; omega)) ?_
    refine Zu (Ai rfl rfl AJ (Aw cy)) ?_
    refine Zm ?_
    refine Zo (AN rfl rfl rfl) ?_
    refine Zt ?_
    refine Zx ?_
    refine Zd (fun c11 => ?_) fun c11 => ?_
    ·refine Zs ?_
     refine Zm ?_
     refine Seq.rel rfl rfl (Ar Lz rfl rfl rfl (fun w hw => Cg (hS0.keep0 hw) (by omega))) ?_
     rintro v57 _ rfl
     refine Za ?_
     refine Seq.nil ?_
     refine Fin.slcs (i := 0) rfl (by rw [List.length_reverse]; omega) ?_
     rintro A57 c57 rfl _
     refine Fin.then <| DC.region ?_
     refine Zm ?_
     refine Zp ?_
     refine Za ?_
     refine Seq.nil <| Fin.inBlock <| Fin.then <| DC.region ?_
     refine Zm ?_
     refine Zp ?_
     refine Za ?_
     refine Seq.nil ?_
     first
     | (have hpq : p = srt a b := hey.1 (.inl ⟨by simpa using k8_5, by simpa using c8⟩)
        refine Ag ⟨i + 1, some ad1, l.length, cap1⟩ (by dsimp only; omega) (by dsimp only; omega) ⟨rfl, rfl, rfl, rfl, ?_, rfl, trivial⟩ .nil
        dsimp only; rw [hcs, if_pos hpq]; rfl)
     | (have hpq : p = srt a b := hey.1 (.inr ⟨by simpa using k11_5, by simpa using c11⟩)
        refine Ag ⟨i + 1, A57, l.reverse.length, c57⟩ (by dsimp only; omega) (by dsimp only; omega) ⟨rfl, rfl, rfl, rfl, ?_, rfl, trivial⟩ .nil
        dsimp only; rw [hcs, if_pos hpq]; rfl)
     | (have hpq : ¬ p = srt a b := fun h => by
         have h9 := hey.2 h
         first
         | (simp at k8_5 k11_5; omega)
         | (simp at k8_5 c8 k11_5 c11; omega)
         | (simp at k8_5 k11_5 c11; omega)
         | (simp at k8_5 c8 k11_5; omega)
        refine Ag ⟨i + 1, A0, l0, c0⟩ (by dsimp only; omega) (by dsimp only; omega) ⟨rfl, rfl, rfl, rfl, ?_, rfl, trivial⟩ .nil
        dsimp only; rw [hcs, if_neg hpq]; rfl)
    refine DC.skip <| Fin.inBlock <| Fin.then <| DC.region ?_
    refine Zm ?_
    refine Zp ?_
    refine Za ?_
    refine Seq.nil ?_
    first
    | (have hpq : p = srt a b := hey.1 (.inl ⟨by simpa using k8_5, by simpa using c8⟩)
       refine Ag ⟨i + 1, some ad1, l.length, cap1⟩ (by dsimp only; omega) (by dsimp only; omega) ⟨rfl, rfl, rfl, rfl, ?_, rfl, trivial⟩ .nil
       dsimp only; rw [hcs, if_pos hpq]; rfl)
    | (have hpq : p = srt a b := hey.1 (.inr ⟨by simpa using k11_5, by simpa using c11⟩)
       refine Ag ⟨i + 1, A57, l.reverse.length, c57⟩ (by dsimp only; omega) (by dsimp only; omega) ⟨rfl, rfl, rfl, rfl, ?_, rfl, trivial⟩ .nil
       dsimp only; rw [hcs, if_pos hpq]; rfl)
    | (have hpq : ¬ p = srt a b := fun h => by
        have h9 := hey.2 h
        first
        | (simp at k8_5 k11_5; omega)
        | (simp at k8_5 c8 k11_5 c11; omega)
        | (simp at k8_5 k11_5 c11; omega)
        | (simp at k8_5 c8 k11_5; omega)
       refine Ag ⟨i + 1, A0, l0, c0⟩ (by dsimp only; omega) (by dsimp only; omega) ⟨rfl, rfl, rfl, rfl, ?_, rfl, trivial⟩ .nil
       dsimp only; rw [hcs, if_neg hpq]; rfl)
   iterate 7 refine Zk ?_
   refine Zg ?_
   refine Zx ?_
   refine AT rfl ?_
   refine DC.skip <| Fin.inBlock <| Fin.then <| DC.region ?_
   refine Zm ?_
   refine Zp ?_
   refine Za ?_
   refine Seq.nil ?_
   first
   | (have hpq : p = srt a b := hey.1 (.inl ⟨by simpa using k8_5, by simpa using c8⟩)
      refine Ag ⟨i + 1, some ad1, l.length, cap1⟩ (by dsimp only; omega) (by dsimp only; omega) ⟨rfl, rfl, rfl, rfl, ?_, rfl, trivial⟩ .nil
      dsimp only; rw [hcs, if_pos hpq]; rfl)
   | (have hpq : p = srt a b := hey.1 (.inr ⟨by simpa using k11_5, by simpa using c11⟩)
      refine Ag ⟨i + 1, A57, l.reverse.length, c57⟩ (by dsimp only; omega) (by dsimp only; omega) ⟨rfl, rfl, rfl, rfl, ?_, rfl, trivial⟩ .nil
      dsimp only; rw [hcs, if_pos hpq]; rfl)
   | (have hpq : ¬ p = srt a b := fun h => by
       have h9 := hey.2 h
       first
       | (simp at k8_5 k11_5; omega)
       | (simp at k8_5 c8 k11_5 c11; omega)
       | (simp at k8_5 k11_5 c11; omega)
       | (simp at k8_5 c8 k11_5; omega)
      refine Ag ⟨i + 1, A0, l0, c0⟩ (by dsimp only; omega) (by dsimp only; omega) ⟨rfl, rfl, rfl, rfl, ?_, rfl, trivial⟩ .nil
      dsimp only; rw [hcs, if_neg hpq]; rfl)
  iterate 7 refine Zk ?_
  refine Zg ?_
  refine Zx ?_
  refine AT rfl ?_
  refine Zs ?_
  refine Zm ?_
  refine Zo (Aj (ad' := ad1.add 0) rfl rfl rfl TT AQ (by omega) (by omega) rfl) ?_
  refine Zu (Ai rfl rfl AJ (Aw cx)) ?_
  refine Zm ?_
  refine Zo (AN rfl rfl rfl) ?_
  refine Zm ?_
  refine Seq.split 47 rfl (fun k11_5 => ?_) (fun k11_5 => ?_)
  ·refine Zm ?_
   refine Zm ?_
   refine Zo (Bv rfl rfl rfl (by omega)) ?_
   refine Zo (Aj (ad' := ad1.add (l.length - 1)) rfl rfl rfl TT AQ (by omega) (by omega) (by congr 1; omega)) ?_
   refine Zu (Ai rfl rfl AJ (Aw cy)) ?_
   refine Zm ?_
   refine Zo (AN rfl rfl rfl) ?_
   refine Zt ?_
   refine Zx ?_
   refine Zd (fun c11 => ?_) fun c11 => ?_
   ·refine Zs ?_
    refine Zm ?_
    refine Seq.rel rfl rfl (Ar Lz rfl rfl rfl (fun w hw => Cg (hS0.keep0 hw) (by omega))) ?_
    rintro v57 _ rfl
    refine Za ?_
    refine Seq.nil ?_
    refine Fin.slcs (i := 0) rfl (by rw [List.length_reverse]; omega) ?_
    rintro A57 c57 rfl _
    refine Fin.then <| DC.region ?_
    refine Zm ?_
    refine Zp ?_
    refine Za ?_
    refine Seq.nil <| Fin.inBlock <| Fin.then <| DC.region ?_
    refine Zm ?_
    refine Zp ?_
    refine Za ?_
    refine Seq.nil ?_
    first
    | (have hpq : p = srt a b := hey.1 (.inl ⟨by simpa using k8_5, by simpa using c8⟩)
       refine Ag ⟨i + 1, some ad1, l.length, cap1⟩ (by dsimp only; omega) (by dsimp only; omega) ⟨rfl, rfl, rfl, rfl, ?_, rfl, trivial⟩ .nil
       dsimp only; rw [hcs, if_pos hpq]; rfl)
    | (have hpq : p = srt a b := hey.1 (.inr ⟨by simpa using k11_5, by simpa using c11⟩)
       refine Ag ⟨i + 1, A57, l.reverse.length, c57⟩ (by dsimp only; omega) (by dsimp only; omega) ⟨rfl, rfl, rfl, rfl, ?_, rfl, trivial⟩ .nil
       dsimp only; rw [hcs, if_pos hpq]; rfl)
    | (have hpq : ¬ p = srt a b := fun h => by
        have h9 := hey.2 h
        first
        | (simp at k8_5 k11_5; omega)
        | (simp at k8_5 c8 k11_5 c11; omega)
        | (simp at k8_5 k11_5 c11; omega)
        | (simp at k8_5 c8 k11_5; omega)
       refine Ag ⟨i + 1, A0, l0, c0⟩ (by dsimp only; omega) (by dsimp only; omega) ⟨rfl, rfl, rfl, rfl, ?_, rfl, trivial⟩ .nil
       dsimp only; rw [hcs, if_neg hpq]; rfl)
   refine DC.skip <| Fin.inBlock <| Fin.then <| DC.region ?_
   refine Zm ?_
   refine Zp ?_
   refine Za ?_
   refine Seq.nil ?_
   first
   | (have hpq : p = srt a b := hey.1 (.inl ⟨by simpa using k8_5, by simpa using c8⟩)
      refine Ag ⟨i + 1, some ad1, l.length, cap1⟩ (by dsimp only; omega) (by dsimp only; omega) ⟨rfl, rfl, rfl, rfl, ?_, rfl, trivial⟩ .nil
      dsimp only; rw [hcs, if_pos hpq]; rfl)
   | (have hpq : p = srt a b := hey.1 (.inr ⟨by simpa using k11_5, by simpa using c11⟩)
      refine Ag ⟨i + 1, A57, l.reverse.length, c57⟩ (by dsimp only; omega) (by dsimp only; omega) ⟨rfl, rfl, rfl, rfl, ?_, rfl, trivial⟩ .nil
      dsimp only; rw [hcs, if_pos hpq]; rfl)
   | (have hpq : ¬ p = srt a b := fun h => by
       have h9 := hey.2 h
       first
       | (simp at k8_5 k11_5; omega)
       | (simp at k8_5 c8 k11_5 c11; omega)
       | (simp at k8_5 k11_5 c11; omega)
       | (simp at k8_5 c8 k11_5; omega)
      refine Ag ⟨i + 1, A0, l0, c0⟩ (by dsimp only; omega) (by dsimp only; omega) ⟨rfl, rfl, rfl, rfl, ?_, rfl, trivial⟩ .nil
      dsimp only; rw [hcs, if_neg hpq]; rfl)
  iterate 7 refine Zk ?_
  refine Zg ?_
  refine Zx ?_
  refine AT rfl ?_
  refine DC.skip <| Fin.inBlock <| Fin.then <| DC.region ?_
  refine Zm ?_
  refine Zp ?_
  refine Za ?_
  refine Seq.nil ?_
  first
  | (have hpq : p = srt a b := hey.1 (.inl ⟨by simpa using k8_5, by simpa using c8⟩)
     refine Ag ⟨i + 1, some ad1, l.length, cap1⟩ (by dsimp only; omega) (by dsimp only; omega) ⟨rfl, rfl, rfl, rfl, ?_, rfl, trivial⟩ .nil
     dsimp only; rw [hcs, if_pos hpq]; rfl)
  | (have hpq : p = srt a b := hey.1 (.inr ⟨by simpa using k11_5, by simpa using c11⟩)
     refine Ag ⟨i + 1, A57, l.reverse.length, c57⟩ (by dsimp only; omega) (by dsimp only; omega) ⟨rfl, rfl, rfl, rfl, ?_, rfl, trivial⟩ .nil
     dsimp only; rw [hcs, if_pos hpq]; rfl)
  | (have hpq : ¬ p = srt a b := fun h => by
      have h9 := hey.2 h
      first
      | (simp at k8_5 k11_5; omega)
      | (simp at k8_5 c8 k11_5 c11; omega)
      | (simp at k8_5 k11_5 c11; omega)
      | (simp at k8_5 c8 k11_5; omega)
     refine Ag ⟨i + 1, A0, l0, c0⟩ (by dsimp only; omega) (by dsimp only; omega) ⟨rfl, rfl, rfl, rfl, ?_, rfl, trivial⟩ .nil
     dsimp only; rw [hcs, if_neg hpq]; rfl)
 refine DC.exit <| Ad <| Ad <| Ah <| Fin.then <| Zs ?_
 iterate 2 refine Zm ?_
 refine Zo (AN rfl rfl rfl) ?_
 iterate 2 refine Za ?_
 refine Zx <| DC.ret ?_
 refine Fin.weak (E' := [(6, _), (7, _)]) ⟨rfl, rfl, trivial⟩ .nil ?_
 refine AL (.inl rfl) rfl rfl rfl ?_
 have hie : i = cs.length := by simp at c4; omega
 have hE1 := hE.1
 refine ⟨A0, l0, c0, _, rfl, ?_⟩
 rw [decide_eq_true_iff, List.take_of_length_le (by omega)]
 omega
open Classical in
noncomputable def nearR (E : List Pr) (b : Int) (B : List Int) : List Int := B.filter fun v => decide (v = b ∨ srt b v ∉ E)
open Classical in
noncomputable def farR (E : List Pr) (b : Int) (B : List Int) : List Int := B.filter fun v => decide (v ≠ b ∧ srt b v ∈ E)
theorem Gn {E : List Pr} {b x : Int} {B : List Int} {i : Nat} (hx : B[i]? = some x) (h : x = b ∨ srt b x ∉ E) : nearR E b (B.take (i + 1)) = nearR E b (B.take i) ++ [x] := by
 unfold nearR
 rw [List.take_add_one, hx, List.filter_append]
 congr 1
 simp [h]
theorem HM {E : List Pr} {b x : Int} {B : List Int} {i : Nat} (hx : B[i]? = some x) (h : ¬ (x = b ∨ srt b x ∉ E)) : nearR E b (B.take (i + 1)) = nearR E b (B.take i) := by
 unfold nearR
 rw [List.take_add_one, hx, List.filter_append]
 simp at h
 simp [h]
theorem H4 {E : List Pr} {b x : Int} {B : List Int} {i : Nat} (hx : B[i]? = some x) (h : x ≠ b ∧ srt b x ∈ E) : farR E b (B.take (i + 1)) = farR E b (B.take i) ++ [x] := by
 unfold farR
 rw [List.take_add_one, hx, List.filter_append]
 congr 1
 simp [h]
theorem J6 {E : List Pr} {b x : Int} {B : List Int} {i : Nat} (hx : B[i]? = some x) (h : ¬ (x ≠ b ∧ srt b x ∈ E)) : farR E b (B.take (i + 1)) = farR E b (B.take i) := by
 unfold farR
 rw [List.take_add_one, hx, List.filter_append]
 have : decide (x ≠ b ∧ srt b x ∈ E) = false := by simpa using h
 simp only [Option.toList_some, List.filter_cons, this, List.filter_nil]
 simp
theorem N9 (E : List Pr) (b : Int) (B : List Int) : (nearR E b B).length ≤ B.length := List.length_filter_le _ _
theorem PN (E : List Pr) (b : Int) (B : List Int) : (farR E b B).length ≤ B.length := List.length_filter_le _ _
theorem IC {E : List Pr} {j : Nat} {p q : Pr} (hp : E[j]? = some p) : q ∈ E.take (j + 1) ↔ q ∈ E.take j ∨ q = p := by
 rw [List.take_add_one, hp, List.mem_append]; simp
theorem I3 {B : List Int} {i j : Nat} {x : Int} (h : B.Nodup) (hi : B[i]? = some x) (hj : B[j]? = some x) : i = j := by
 obtain ⟨h1, e1⟩ := TA.1 hi
 obtain ⟨h2, e2⟩ := TA.1 hj
 have hp := List.pairwise_iff_getElem.1 h
 rcases Nat.lt_trichotomy i j with hlt | he | hlt
 ·exact absurd (e1.trans e2.symm) (hp i j h1 h2 hlt)
 ·exact he
 exact absurd (e2.trans e1.symm) (hp j i h2 h1 hlt)
theorem Qy {w0 : World} {K : List Nat} {L : List Chunk} {t l c i : Nat} {A : Option Addr} {xs : List Int} (hl : l = xs.length) (hi : L[i]? = some (slc (.slice A l c) t 1 (ints xs))) (h : 0 < xs.length → ∃ ad, A = some ad) : Src w0 K L (.slice A l c) l (ints xs) := by
 match A with
 | some ad => exact .inl ⟨ad, c, rfl, BB hi⟩
 | none =>
  have h0 : xs.length = 0 := by
   cases hx : xs.length with
   | zero => rfl
   | succ k => obtain ⟨ad, e⟩ := h (by omega); cases e
  have hx : xs = [] := TO h0
  subst hx hl
  exact .inr ⟨c, rfl, rfl, rfl⟩
structure Sd2I where
 i : Nat
 vn : Value
 vf : Value
structure Sd2J where
 j : Nat
 b : Bool
theorem Hu {cs : List (List Int)} {E : List Pr} {B : List Int} {v vb : Value} {w : World} (hl : LsV w v cs) (hE : EdL cs E) (hB : SlV w vb B) (hnd : B.Nodup) (hn : cs.length ≤ 100000000) (hBn : B.length ≤ 100000000) :
  Calls Tryz.prog 69 #[v, vb] w (Ret w [] fun r M => M = [slc r 3 1 (ints (sidesR E B))]) := by
 obtain ⟨C, capc, rfl, hrc, hlc, hcc, hlec⟩ := hl
 obtain ⟨D, capd, rfl, hrd, hld, hcd, hled⟩ := hB
 refine Ao (K := []) (args := [_, _]) (L := []) Tryz.func69 rfl Tryz.ntmps69 rfl (Own.start _ _) ?_
 refine Zs ?_
 refine Za ?_
 refine Zx <| Zs ?_
 refine Za ?_
 refine Zx <| Zs ?_
 refine Za ?_
 refine Zx <| DC.seq <| Zs ?_
 refine Za ?_
 refine Zx <| DC.block ?_
 refine DC.own (fun w hw => AX (t := 3) (m := 1) hw) ?_
 refine DC.own (fun w hw => AX (t := 3) (m := 1) hw) ?_
 refine DC.loop (ι := Sd2I) (fun j => j.i ≤ B.length) (fun j => [(0, .slice C cs.length capc), (1, .slice D B.length capd), (5, j.vn), (6, j.vf), (7, .int .i64 (j.i : Nat))]) (fun j => [slc j.vn 3 1 (ints (nearR E (B.headD 0) (B.take j.i))), slc j.vf 3 1 (ints (farR E (B.headD 0) (B.take j.i)))]) (fun j => B.length - j.i) ⟨0, .slice none 0 0, .slice none 0 0⟩ (Nat.zero_le _) ⟨rfl, rfl, rfl, rfl, rfl, trivial⟩ (.cons 0 rfl (.cons 0 rfl .nil)) ?_
 rintro ⟨i, vn, vf⟩ hi
 dsimp only at hi ⊢
 have hnl := N9 E (B.headD 0) (B.take i)
 have hfl := PN E (B.headD 0) (B.take i)
 rw [List.length_take] at hnl hfl
 refine DC.seq <| Zs ?_
 iterate 2 refine Zm ?_
 refine Zn TT ?_
 refine Zc ?_
 refine Zx ?_
 refine Zd (fun c4 => ?_) fun c4 => ?_
 ·have hlt : i < B.length := by simpa using c4
  obtain ⟨xi, hxi⟩ : ∃ x, B[i]? = some x := ⟨_, Tz hlt⟩
  obtain ⟨x0, hx0⟩ : ∃ x, B[0]? = some x := ⟨_, Tz (by omega)⟩
  have hb0 : B.headD 0 = x0 := by
   cases B with
   | nil => cases hx0
   | cons a r => simpa using hx0
  have h0i : x0 = xi ↔ i = 0 := by
   constructor
   ·intro h
    subst h
    exact I3 hnd hxi hx0
   intro h
   subst h
   rw [hxi] at hx0
   exact (Option.some.inj hx0).symm
  rw [hb0] at hnl hfl ⊢
  obtain ⟨ad, rfl, cxi⟩ := hrd.int hxi
  obtain ⟨ad', e', cx0⟩ := hrd.int hx0
  cases e'
  refine DC.skip <| Fin.then <| DC.seq <| DC.block <| Zs ?_
  refine Za ?_
  refine Zx <| DC.seq <| Zs ?_
  refine Za ?_
  refine Zx <| DC.block ?_
  refine DC.loop (ι := Sd2J) (fun j => j.j ≤ cs.length ∧ (i ≠ 0 → (j.b = true ↔ srt x0 xi ∈ E.take j.j))) (fun j => [(0, .slice C cs.length capc), (1, .slice (some ad) B.length capd), (5, vn), (6, vf), (7, .int .i64 (i : Nat)), (8, .bool j.b), (9, .int .i64 (j.j : Nat))]) (fun j => [slc vn 3 1 (ints (nearR E x0 (B.take i))), slc vf 3 1 (ints (farR E x0 (B.take i)))]) (fun j => cs.length - j.j) ⟨0, false⟩ ⟨Nat.zero_le _, by simp⟩ ⟨rfl, rfl, rfl, rfl, rfl, rfl, rfl, trivial⟩ (.cons 0 rfl (.cons 0 rfl .nil)) ?_
  rintro ⟨j, bj⟩ ⟨hj, hbj⟩
  dsimp only at hj hbj ⊢
  refine DC.seq <| Zs ?_
  iterate 2 refine Zm ?_
  refine Zn TW ?_
  refine Zc ?_
  refine Zx ?_
  refine Zd (fun c8 => ?_) fun c8 => ?_
  ·have hlt2 : j < cs.length := by simpa using c8
   obtain ⟨l, hl⟩ : ∃ l, cs[j]? = some l := ⟨_, Tz hlt2⟩
   obtain ⟨ad2, lv, rfl, hcell, hS⟩ := hrc j l hl
   obtain ⟨A1, cap1, rfl, hr1, _, _, _⟩ := hS
   obtain ⟨hl1, hl2, hend⟩ := hE.2 j l hl
   obtain ⟨x, hx⟩ : ∃ x, l[0]? = some x := ⟨_, Tz (by omega)⟩
   obtain ⟨y, hy⟩ : ∃ y, l[l.length - 1]? = some y := ⟨_, Tz (by omega)⟩
   obtain ⟨ad1, rfl, cx⟩ := hr1.int hx
   obtain ⟨ad1', e', cy⟩ := hr1.int hy
   cases e'
   obtain ⟨p, hp⟩ : ∃ p, E[j]? = some p := ⟨_, Tz (by have := hE.1; omega)⟩
   have hey : i ≠ 0 → (((x = x0 ∧ y = xi) ∨ (x = xi ∧ y = x0)) ↔ srt x0 xi = p) := fun h => by
    have := hend x y hx hy x0 xi (fun e => h (h0i.1 e))
    rw [hp, Option.some.injEq] at this
    rw [this]; exact ⟨fun h => h.symm, fun h => h.symm⟩
   have hms := IC (q := srt x0 xi) hp
   refine DC.skip <| Fin.then <| DC.seq <| DC.block <| Zs ?_
   iterate 2 refine Zm ?_
   refine Zo (Aj (ad' := ad2.add j) rfl rfl rfl TW BE (by omega) (by omega) (by rw [TC])) ?_
   refine Zu (Ai rfl rfl BA (Aw hcell)) ?_
   refine Za ?_
   refine Zx <| Zs ?_
   refine Zm ?_
   refine Zo (Aj (ad' := ad1.add 0) rfl rfl rfl TT AQ (by omega) (by omega) rfl) ?_
   refine Zu (Ai rfl rfl AJ (Aw cx)) ?_
   refine Za ?_
   refine Zx <| Zs ?_
   iterate 2 refine Zm ?_
   refine Zn TT ?_
   refine Zo (Bv rfl rfl rfl (by omega)) ?_
   refine Zo (Aj (ad' := ad1.add (l.length - 1)) rfl rfl rfl TT AQ (by omega) (by omega) (by congr 1; omega)) ?_
   refine Zu (Ai rfl rfl AJ (Aw cy)) ?_
   refine Za ?_
   refine Zx <| Zs ?_
   iterate 2 refine Zm ?_
   refine Zo (Aj (ad' := ad.add 0) rfl rfl rfl TT AQ (by omega) (by omega) rfl) ?_
   refine Zu (Ai rfl rfl AJ (Aw cx0)) ?_
   refine Zo (AN rfl rfl rfl) ?_
   refine Zm ?_
   refine Seq.split 43 rfl (fun k13_5 => ?_) (fun k13_5 => ?_)
   ·refine Zm ?_
    iterate 2 refine Zm ?_
    refine Zo (Aj (ad' := ad.add i) rfl rfl rfl TT AQ (by omega) (by omega) (by rw [TC])) ?_
    refine Zu (Ai rfl rfl AJ (Aw cxi)) ?_
    refine Zo (AN rfl rfl rfl) ?_
    refine Zt ?_
    refine Zm ?_
    refine Seq.split 51 rfl (fun k13_13 => ?_) (fun k13_13 => ?_)
    ·refine Zk ?_
     iterate 12 refine Zk ?_
     refine Zt ?_
     refine Zx ?_
     refine AI rfl ?_
     refine DC.region ?_
     refine Za ?_
     refine Seq.nil <| Fin.inBlock <| Fin.then <| DC.region ?_
     refine Zm ?_
     refine Zp ?_
     refine Za ?_
     refine Seq.nil ?_
     first
     | (have hq : i ≠ 0 → srt x0 xi = p := fun h => (hey h).1 (.inl ⟨by simpa using k13_5, by simpa using k13_13⟩)
        refine Ag ⟨j + 1, true⟩ (by dsimp only; omega) ⟨by dsimp only; omega, fun h => by dsimp only; rw [hms]; simp [hq h]⟩ ⟨rfl, rfl, rfl, rfl, rfl, rfl, rfl, trivial⟩ (.cons 0 rfl (.cons 0 rfl .nil)))
     | (have hq : i ≠ 0 → srt x0 xi = p := fun h => (hey h).1 (.inr ⟨by simp at *; omega, by simp at *; omega⟩)
        refine Ag ⟨j + 1, true⟩ (by dsimp only; omega) ⟨by dsimp only; omega, fun h => by dsimp only; rw [hms]; simp [hq h]⟩ ⟨rfl, rfl, rfl, rfl, rfl, rfl, rfl, trivial⟩ (.cons 0 rfl (.cons 0 rfl .nil)))
     | (have hq : i ≠ 0 → ¬ srt x0 xi = p := fun h hh => by
         have h9 := (hey h).2 hh
         clear hey hms hend hbj hrc hr1 hrd hE hnd cxi cx0 cx cy hcell hl hx hy hp hxi hx0 hnl hfl hb0 h0i h hh
         simp at *; omega
        refine Ag ⟨j + 1, bj⟩ (by dsimp only; omega) ⟨by dsimp only; omega, fun h => by dsimp only; rw [hms, hbj h]; simp [hq h]⟩ ⟨rfl, rfl, rfl, rfl, rfl, rfl, rfl, trivial⟩ (.cons 0 rfl (.cons 0 rfl .nil)))
    iterate 2 refine Zm ?_
    refine Zo (Aj (ad' := ad.add 0) rfl rfl rfl TT AQ (by omega) (by omega) rfl) ?_
    refine Zu (Ai rfl rfl AJ (Aw cx0)) ?_
    refine Zo (AN rfl rfl rfl) ?_
    refine Zm ?_
    refine Seq.split 57 rfl (fun k13_19 => ?_) (fun k13_19 => ?_)
    ·refine Zm ?_
     iterate 2 refine Zm ?_
     refine Zo (Aj (ad' := ad.add i) rfl rfl rfl TT AQ (by omega) (by omega) (by rw [TC])) ?_
     refine Zu (Ai rfl rfl AJ (Aw cxi)) ?_
     refine Zo (AN rfl rfl rfl) ?_
     refine Zt ?_
     refine Zg ?_
     refine Zx ?_
     refine Zd (fun c13 => ?_) fun c13 => ?_
     ·refine DC.region ?_
      refine Za ?_
      refine Seq.nil <| Fin.inBlock <| Fin.then <| DC.region ?_
      refine Zm ?_
      refine Zp ?_
      refine Za ?_
      refine Seq.nil ?_
      first
      | (have hq : i ≠ 0 → srt x0 xi = p := fun h => (hey h).1 (.inl ⟨by simpa using k13_5, by simpa using k13_13⟩)
         refine Ag ⟨j + 1, true⟩ (by dsimp only; omega) ⟨by dsimp only; omega, fun h => by dsimp only; rw [hms]; simp [hq h]⟩ ⟨rfl, rfl, rfl, rfl, rfl, rfl, rfl, trivial⟩ (.cons 0 rfl (.cons 0 rfl .nil)))
      | (have hq : i ≠ 0 → srt x0 xi = p := fun h => (hey h).1 (.inr ⟨by simp at *; omega, by simp at *; omega⟩)
         refine Ag ⟨j + 1, true⟩ (by dsimp only; omega) ⟨by dsimp only; omega, fun h => by dsimp only; rw [hms]; simp [hq h]⟩ ⟨rfl, rfl, rfl, rfl, rfl, rfl, rfl, trivial⟩ (.cons 0 rfl (.cons 0 rfl .nil)))
      | (have hq : i ≠ 0 → ¬ srt x0 xi = p := fun h hh => by
          have h9 := (hey h).2 hh
          clear hey hms hend hbj hrc hr1 hrd hE hnd cxi cx0 cx cy hcell hl hx hy hp hxi hx0 hnl hfl hb0 h0i h hh
          simp at *; omega
         refine Ag ⟨j + 1, bj⟩ (by dsimp only; omega) ⟨by dsimp only; omega, fun h => by dsimp only; rw [hms, hbj h]; simp [hq h]⟩ ⟨rfl, rfl, rfl, rfl, rfl, rfl, rfl, trivial⟩ (.cons 0 rfl (.cons 0 rfl .nil)))
     refine DC.skip <| Fin.inBlock <| Fin.then <| DC.region ?_
     refine Zm ?_
     refine Zp ?_
     refine Za ?_
     refine Seq.nil ?_
     first
     | (have hq : i ≠ 0 → srt x0 xi = p := fun h => (hey h).1 (.inl ⟨by simpa using k13_5, by simpa using k13_13⟩)
        refine Ag ⟨j + 1, true⟩ (by dsimp only; omega) ⟨by dsimp only; omega, fun h => by dsimp only; rw [hms]; simp [hq h]⟩ ⟨rfl, rfl, rfl, rfl, rfl, rfl, rfl, trivial⟩ (.cons 0 rfl (.cons 0 rfl .nil)))
     | (have hq : i ≠ 0 → srt x0 xi = p := fun h => (hey h).1 (.inr ⟨by simp at *; omega, by simp at *; omega⟩)
        refine Ag ⟨j + 1, true⟩ (by dsimp only; omega) ⟨by dsimp only; omega, fun h => by dsimp only; rw [hms]; simp [hq h]⟩ ⟨rfl, rfl, rfl, rfl, rfl, rfl, rfl, trivial⟩ (.cons 0 rfl (.cons 0 rfl .nil)))
     | (have hq : i ≠ 0 → ¬ srt x0 xi = p := fun h hh => by
         have h9 := (hey h).2 hh
         clear hey hms hend hbj hrc hr1 hrd hE hnd cxi cx0 cx cy hcell hl hx hy hp hxi hx0 hnl hfl hb0 h0i h hh
         simp at *; omega
        refine Ag ⟨j + 1, bj⟩ (by dsimp only; omega) ⟨by dsimp only; omega, fun h => by dsimp only; rw [hms, hbj h]; simp [hq h]⟩ ⟨rfl, rfl, rfl, rfl, rfl, rfl, rfl, trivial⟩ (.cons 0 rfl (.cons 0 rfl .nil)))
    iterate 6 refine Zk ?_
    iterate 2 refine Zg ?_
    refine Zx ?_
    refine AT rfl ?_
    refine DC.skip <| Fin.inBlock <| Fin.then <| DC.region ?_
    refine Zm ?_
    refine Zp ?_
    refine Za ?_
    refine Seq.nil ?_
    first
    | (have hq : i ≠ 0 → srt x0 xi = p := fun h => (hey h).1 (.inl ⟨by simpa using k13_5, by simpa using k13_13⟩)
       refine Ag ⟨j + 1, true⟩ (by dsimp only; omega) ⟨by dsimp only; omega, fun h => by dsimp only; rw [hms]; simp [hq h]⟩ ⟨rfl, rfl, rfl, rfl, rfl, rfl, rfl, trivial⟩ (.cons 0 rfl (.cons 0 rfl .nil)))
    | (have hq : i ≠ 0 → srt x0 xi = p := fun h => (hey h).1 (.inr ⟨by simp at *; omega, by simp at *; omega⟩)
       refine Ag ⟨j + 1, true⟩ (by dsimp only; omega) ⟨by dsimp only; omega, fun h => by dsimp only; rw [hms]; simp [hq h]⟩ ⟨rfl, rfl, rfl, rfl, rfl, rfl, rfl, trivial⟩ (.cons 0 rfl (.cons 0 rfl .nil)))
    | (have hq : i ≠ 0 → ¬ srt x0 xi = p := fun h hh => by
        have h9 := (hey h).2 hh
        clear hey hms hend hbj hrc hr1 hrd hE hnd cxi cx0 cx cy hcell hl hx hy hp hxi hx0 hnl hfl hb0 h0i h hh
        simp at *; omega
       refine Ag ⟨j + 1, bj⟩ (by dsimp only; omega) ⟨by dsimp only; omega, fun h => by dsimp only; rw [hms, hbj h]; simp [hq h]⟩ ⟨rfl, rfl, rfl, rfl, rfl, rfl, rfl, trivial⟩ (.cons 0 rfl (.cons 0 rfl .nil)))
   iterate 6 refine Zk ?_
   refine Zg ?_
   iterate 3 refine Zm ?_
   refine Zo (Aj (ad' := ad.add 0) rfl rfl rfl TT AQ (by omega) (by omega) rfl) ?_
   refine Zu (Ai rfl rfl AJ (Aw cx0)) ?_
   refine Zo (AN rfl rfl rfl) ?_
   refine Zm ?_
   refine Seq.split 57 rfl (fun k13_19 => ?_) (fun k13_19 => ?_)
   ·refine Zm ?_
    iterate 2 refine Zm ?_
    refine Zo (Aj (ad' := ad.add i) rfl rfl rfl TT AQ (by omega) (by omega) (by rw [TC])) ?_
    refine Zu (Ai rfl rfl AJ (Aw cxi)) ?_
    refine Zo (AN rfl rfl rfl) ?_
    refine Zt ?_
    refine Zg ?_
    refine Zx ?_
    refine Zd (fun c13 => ?_) fun c13 => ?_
    ·refine DC.region ?_
     refine Za ?_
     refine Seq.nil <| Fin.inBlock <| Fin.then <| DC.region ?_
     refine Zm ?_
     refine Zp ?_
     refine Za ?_
     refine Seq.nil ?_
     first
     | (have hq : i ≠ 0 → srt x0 xi = p := fun h => (hey h).1 (.inl ⟨by simpa using k13_5, by simpa using k13_13⟩)
        refine Ag ⟨j + 1, true⟩ (by dsimp only; omega) ⟨by dsimp only; omega, fun h => by dsimp only; rw [hms]; simp [hq h]⟩ ⟨rfl, rfl, rfl, rfl, rfl, rfl, rfl, trivial⟩ (.cons 0 rfl (.cons 0 rfl .nil)))
     | (have hq : i ≠ 0 → srt x0 xi = p := fun h => (hey h).1 (.inr ⟨by simp at *; omega, by simp at *; omega⟩)
        refine Ag ⟨j + 1, true⟩ (by dsimp only; omega) ⟨by dsimp only; omega, fun h => by dsimp only; rw [hms]; simp [hq h]⟩ ⟨rfl, rfl, rfl, rfl, rfl, rfl, rfl, trivial⟩ (.cons 0 rfl (.cons 0 rfl .nil)))
     | (have hq : i ≠ 0 → ¬ srt x0 xi = p := fun h hh => by
         have h9 := (hey h).2 hh
         clear hey hms hend hbj hrc hr1 hrd hE hnd cxi cx0 cx cy hcell hl hx hy hp hxi hx0 hnl hfl hb0 h0i h hh
         simp at *; omega
        refine Ag ⟨j + 1, bj⟩ (by dsimp only; omega) ⟨by dsimp only; omega, fun h => by dsimp only; rw [hms, hbj h]; simp [hq h]⟩ ⟨rfl, rfl, rfl, rfl, rfl, rfl, rfl, trivial⟩ (.cons 0 rfl (.cons 0 rfl .nil)))
    refine DC.skip <| Fin.inBlock <| Fin.then <| DC.region ?_
    refine Zm ?_
    refine Zp ?_
    refine Za ?_
    refine Seq.nil ?_
    first
    | (have hq : i ≠ 0 → srt x0 xi = p := fun h => (hey h).1 (.inl ⟨by simpa using k13_5, by simpa using k13_13⟩)
       refine Ag ⟨j + 1, true⟩ (by dsimp only; omega) ⟨by dsimp only; omega, fun h => by dsimp only; rw [hms]; simp [hq h]⟩ ⟨rfl, rfl, rfl, rfl, rfl, rfl, rfl, trivial⟩ (.cons 0 rfl (.cons 0 rfl .nil)))
    | (have hq : i ≠ 0 → srt x0 xi = p := fun h => (hey h).1 (.inr ⟨by simp at *; omega, by simp at *; omega⟩)
       refine Ag ⟨j + 1, true⟩ (by dsimp only; omega) ⟨by dsimp only; omega, fun h => by dsimp only; rw [hms]; simp [hq h]⟩ ⟨rfl, rfl, rfl, rfl, rfl, rfl, rfl, trivial⟩ (.cons 0 rfl (.cons 0 rfl .nil)))
    | (have hq : i ≠ 0 → ¬ srt x0 xi = p := fun h hh => by
        have h9 := (hey h).2 hh
        clear hey hms hend hbj hrc hr1 hrd hE hnd cxi cx0 cx cy hcell hl hx hy hp hxi hx0 hnl hfl hb0 h0i h hh
        simp at *; omega
       refine Ag ⟨j + 1, bj⟩ (by dsimp only; omega) ⟨by dsimp only; omega, fun h => by dsimp only; rw [hms, hbj h]; simp [hq h]⟩ ⟨rfl, rfl, rfl, rfl, rfl, rfl, rfl, trivial⟩ (.cons 0 rfl (.cons 0 rfl .nil)))
   iterate 6 refine Zk ?_
   iterate 2 refine Zg ?_
   refine Zx ?_
   refine AT rfl ?_
   refine DC.skip <| Fin.inBlock <| Fin.then <| DC.region ?_
   refine Zm ?_
   refine Zp ?_
   refine Za ?_
   refine Seq.nil ?_
   first
   | (have hq : i ≠ 0 → srt x0 xi = p := fun h => (hey h).1 (.inl ⟨by simpa using k13_5, by simpa using k13_13⟩)
      refine Ag ⟨j + 1, true⟩ (by dsimp only; omega) ⟨by dsimp only; omega, fun h => by dsimp only; rw [hms]; simp [hq h]⟩ ⟨rfl, rfl, rfl, rfl, rfl, rfl, rfl, trivial⟩ (.cons 0 rfl (.cons 0 rfl .nil)))
   | (have hq : i ≠ 0 → srt x0 xi = p := fun h => (hey h).1 (.inr ⟨by simp at *; omega, by simp at *; omega⟩)
      refine Ag ⟨j + 1, true⟩ (by dsimp only; omega) ⟨by dsimp only; omega, fun h => by dsimp only; rw [hms]; simp [hq h]⟩ ⟨rfl, rfl, rfl, rfl, rfl, rfl, rfl, trivial⟩ (.cons 0 rfl (.cons 0 rfl .nil)))
   | (have hq : i ≠ 0 → ¬ srt x0 xi = p := fun h hh => by
       have h9 := (hey h).2 hh
       clear hey hms hend hbj hrc hr1 hrd hE hnd cxi cx0 cx cy hcell hl hx hy hp hxi hx0 hnl hfl hb0 h0i h hh
       simp at *; omega
      refine Ag ⟨j + 1, bj⟩ (by dsimp only; omega) ⟨by dsimp only; omega, fun h => by dsimp only; rw [hms, hbj h]; simp [hq h]⟩ ⟨rfl, rfl, rfl, rfl, rfl, rfl, rfl, trivial⟩ (.cons 0 rfl (.cons 0 rfl .nil)))
  refine DC.exit <| Ad <| Ad <| Ah <| Fin.then <| Zs ?_
  iterate 2 refine Zm ?_
  refine Seq.split 67 rfl (fun k15_1 => ?_) (fun k15_1 => ?_)
  ·refine Zm ?_
   refine Zo (Bs rfl rfl rfl) ?_
   refine Zt ?_
   refine Zx ?_
   refine Zd (fun c15 => ?_) fun c15 => ?_
   ·refine DC.region ?_
    iterate 3 refine Zm ?_
    refine Zo (Aj (ad' := ad.add i) rfl rfl rfl TT AQ (by omega) (by omega) (by rw [TC])) ?_
    refine Zu (Ai rfl rfl AJ (Aw cxi)) ?_
    refine Zw (AP (cs := #[_]) rfl rfl TT AQ B0 rfl (by decide) (by decide) rfl rfl) fun g76 => ?_
    refine Seq.gen rfl rfl (AK (F := [blk g76 3 #[.int .i64 xi], slc vn 3 1 (ints (nearR E x0 (B.take i)))]) (vs := ints (farR E x0 (B.take i))) (k := 1) (news := [.int .i64 xi]) rfl rfl rfl TT AQ DE B0 rfl (by decide) (by decide)
     (fun w hw => hw.pick (.cons 2 rfl (.cons 0 rfl (.cons 0 rfl .nil)))) (.inl ⟨_, _, rfl, Ak rfl⟩) rfl (Bm [xi] []) (by rw [ints_length]; omega)) ?_
    rintro v77 _ rfl
    refine Za ?_
    refine Seq.nil <| Fin.inBlock <| Fin.then <| DC.region ?_
    refine Zm ?_
    refine Zp ?_
    refine Za ?_
    refine Seq.nil ?_
    have hjl : j = cs.length := by simp at c8; omega
    rw [List.take_of_length_le (by have := hE.1; omega)] at hbj
    first
    | (have hor : xi = x0 ∨ srt x0 xi ∉ E := by
        by_cases h0 : i = 0
        ·exact .inl (h0i.2 h0).symm
        ·exact .inr fun h => by
          have := (hbj h0).2 h
          first
          | (simp at c15; omega)
          | (rw [this] at k15_1; simp at k15_1)
       have hno : ¬ (xi ≠ x0 ∧ srt x0 xi ∈ E) := fun h => hor.elim h.1 (fun h2 => h2 h.2)
       refine Ag ⟨i + 1, v84, vf⟩ (by dsimp only; omega) (by dsimp only; omega) ⟨rfl, rfl, rfl, rfl, rfl, trivial⟩ (.cons' 0 rfl (by dsimp only; rw [Gn hxi hor, AU]; rfl) (.cons' 1 rfl (by dsimp only; rw [J6 hxi hno]) .nil)))
    | (have hi0 : i ≠ 0 := by simp at c15; omega
       have hin := (hbj hi0).1 (by simpa using k15_1)
       have hne : xi ≠ x0 := fun h => hi0 (h0i.1 h.symm)
       refine Ag ⟨i + 1, vn, v77⟩ (by dsimp only; omega) (by dsimp only; omega) ⟨rfl, rfl, rfl, rfl, rfl, trivial⟩ (.cons' 2 rfl (by dsimp only; rw [HM hxi (by simp [hne, hin])]) (.cons' 0 rfl (by dsimp only; rw [H4 hxi ⟨hne, hin⟩, AU]; rfl) .nil)))
   refine DC.region ?_
   iterate 3 refine Zm ?_
   refine Zo (Aj (ad' := ad.add i) rfl rfl rfl TT AQ (by omega) (by omega) (by rw [TC])) ?_
   refine Zu (Ai rfl rfl AJ (Aw cxi)) ?_
   refine Zw (AP (cs := #[_]) rfl rfl TT AQ B0 rfl (by decide) (by decide) rfl rfl) fun g83 => ?_
   refine Seq.gen rfl rfl (AK (F := [blk g83 3 #[.int .i64 xi], slc vf 3 1 (ints (farR E x0 (B.take i)))]) (vs := ints (nearR E x0 (B.take i))) (k := 1) (news := [.int .i64 xi]) rfl rfl rfl TT AQ DE B0 rfl (by decide) (by decide)
    (fun w hw => hw.pick (.cons 1 rfl (.cons 0 rfl (.cons 0 rfl .nil)))) (.inl ⟨_, _, rfl, Ak rfl⟩) rfl (Bm [xi] []) (by rw [ints_length]; omega)) ?_
   rintro v84 _ rfl
   refine Za ?_
   refine Seq.nil <| Fin.inBlock <| Fin.then <| DC.region ?_
   refine Zm ?_
   refine Zp ?_
   refine Za ?_
   refine Seq.nil ?_
   have hjl : j = cs.length := by simp at c8; omega
   rw [List.take_of_length_le (by have := hE.1; omega)] at hbj
   first
   | (have hor : xi = x0 ∨ srt x0 xi ∉ E := by
       by_cases h0 : i = 0
       ·exact .inl (h0i.2 h0).symm
       ·exact .inr fun h => by
         have := (hbj h0).2 h
         first
         | (simp at c15; omega)
         | (rw [this] at k15_1; simp at k15_1)
      have hno : ¬ (xi ≠ x0 ∧ srt x0 xi ∈ E) := fun h => hor.elim h.1 (fun h2 => h2 h.2)
      refine Ag ⟨i + 1, v84, vf⟩ (by dsimp only; omega) (by dsimp only; omega) ⟨rfl, rfl, rfl, rfl, rfl, trivial⟩ (.cons' 0 rfl (by dsimp only; rw [Gn hxi hor, AU]; rfl) (.cons' 1 rfl (by dsimp only; rw [J6 hxi hno]) .nil)))
   | (have hi0 : i ≠ 0 := by simp at c15; omega
      have hin := (hbj hi0).1 (by simpa using k15_1)
      have hne : xi ≠ x0 := fun h => hi0 (h0i.1 h.symm)
      refine Ag ⟨i + 1, vn, v77⟩ (by dsimp only; omega) (by dsimp only; omega) ⟨rfl, rfl, rfl, rfl, rfl, trivial⟩ (.cons' 2 rfl (by dsimp only; rw [HM hxi (by simp [hne, hin])]) (.cons' 0 rfl (by dsimp only; rw [H4 hxi ⟨hne, hin⟩, AU]; rfl) .nil)))
  iterate 2 refine Zk ?_
  refine Zg ?_
  refine Zx ?_
  refine AT rfl ?_
  refine DC.region ?_
  iterate 3 refine Zm ?_
  refine Zo (Aj (ad' := ad.add i) rfl rfl rfl TT AQ (by omega) (by omega) (by rw [TC])) ?_
  refine Zu (Ai rfl rfl AJ (Aw cxi)) ?_
  refine Zw (AP (cs := #[_]) rfl rfl TT AQ B0 rfl (by decide) (by decide) rfl rfl) fun g83 => ?_
  refine Seq.gen rfl rfl (AK (F := [blk g83 3 #[.int .i64 xi], slc vf 3 1 (ints (farR E x0 (B.take i)))]) (vs := ints (nearR E x0 (B.take i))) (k := 1) (news := [.int .i64 xi]) rfl rfl rfl TT AQ DE B0 rfl (by decide) (by decide)
   (fun w hw => hw.pick (.cons 1 rfl (.cons 0 rfl (.cons 0 rfl .nil)))) (.inl ⟨_, _, rfl, Ak rfl⟩) rfl (Bm [xi] []) (by rw [ints_length]; omega)) ?_
  rintro v84 _ rfl
  refine Za ?_
  refine Seq.nil <| Fin.inBlock <| Fin.then <| DC.region ?_
  refine Zm ?_
  refine Zp ?_
  refine Za ?_
  refine Seq.nil ?_
  have hjl : j = cs.length := by simp at c8; omega
  rw [List.take_of_length_le (by have := hE.1; omega)] at hbj
  first
  | (have hor : xi = x0 ∨ srt x0 xi ∉ E := by
      by_cases h0 : i = 0
      ·exact .inl (h0i.2 h0).symm
      ·exact .inr fun h => by
        have := (hbj h0).2 h
        first
        | (simp at c15; omega)
        | (rw [this] at k15_1; simp at k15_1)
     have hno : ¬ (xi ≠ x0 ∧ srt x0 xi ∈ E) := fun h => hor.elim h.1 (fun h2 => h2 h.2)
     refine Ag ⟨i + 1, v84, vf⟩ (by dsimp only; omega) (by dsimp only; omega) ⟨rfl, rfl, rfl, rfl, rfl, trivial⟩ (.cons' 0 rfl (by dsimp only; rw [Gn hxi hor, AU]; rfl) (.cons' 1 rfl (by dsimp only; rw [J6 hxi hno]) .nil)))
  | (have hi0 : i ≠ 0 := by simp at c15; omega
     have hin := (hbj hi0).1 (by simpa using k15_1)
     have hne : xi ≠ x0 := fun h => hi0 (h0i.1 h.symm)
     refine Ag ⟨i + 1, vn, v77⟩ (by dsimp only; omega) (by dsimp only; omega) ⟨rfl, rfl, rfl, rfl, rfl, trivial⟩ (.cons' 2 rfl (by dsimp only; rw [HM hxi (by simp [hne, hin])]) (.cons' 0 rfl (by dsimp only; rw [H4 hxi ⟨hne, hin⟩, AU]; rfl) .nil)))
 refine DC.exit <| Ad <| Ad <| Ah <| Fin.then <| DC.seq ?_
 have hib : i = B.length := by simp at c4; omega
 subst hib
 rw [List.take_length] at hnl hfl ⊢
 refine Ip 1 rfl ?_
 rintro ⟨Af, cf, rfl⟩
 refine MW 1 rfl ?_
 intro hAf
 rw [ints_length] at hAf ⊢
 refine DC.region ?_
 iterate 2 refine Zm ?_
 refine Seq.gen rfl rfl (AK (F := [slc (.slice Af (farR E (B.headD 0) B).length cf) 3 1 (ints (farR E (B.headD 0) B))]) (vs := ints (nearR E (B.headD 0) B)) (k := (farR E (B.headD 0) B).length) (news := ints (farR E (B.headD 0) B)) rfl rfl rfl TT AQ DE B0 rfl (by decide) (by decide)
  (fun w hw => hw) (Qy (i := 1) rfl rfl hAf) (by rw [ints_length, Nat.mul_one]) (Bm _ []) (by rw [ints_length]; omega)) ?_
 rintro v87 _ rfl
 refine Za ?_
 refine Zx <| DC.ret ?_
 refine Fin.weak (E' := [(4, _)]) ⟨rfl, trivial⟩ (.cons 0 rfl .nil) ?_
 refine Zh ?_
 rw [← AU]; rfl
theorem L5 {a b u v : Int} (hab : a ≠ b) (huv : u ≠ v) : ((min a b = u ∧ max a b = v) ∨ (min a b = v ∧ max a b = u)) ↔ srt a b = srt u v := by
 constructor
 ·intro h
  unfold srt
  rw [Prod.mk.injEq]; omega
 intro h
 unfold srt at h
 rw [Prod.mk.injEq] at h; omega
theorem MD {es : List Pr} {k : Nat} {rs : RL} (h : RcR es k rs) (hfew : es.length ≤ 10000000) : EdL (rs.map Prod.snd) (endsU es k) := by
 refine ⟨by unfold endsU; simp [h.len], fun j l hl => ?_⟩
 rw [List.getElem?_map, Option.map_eq_some_iff] at hl
 obtain ⟨p, hp, rfl⟩ := hl
 have hs := Ge h (TD hp)
 refine ⟨by omega, by omega, fun x y hx hy u v huv => ?_⟩
 obtain ⟨e, he⟩ : ∃ e, (selU es k)[j]? = some e := ⟨_, Tz (by have := (TA.1 hp).1; have := h.len; omega)⟩
 obtain ⟨⟨p', q', h1, h2, h3, h4⟩, _⟩ := h.at' j e p he hp
 rw [hx] at h1; rw [hy] at h2
 cases h1; cases h2
 unfold endsU
 rw [List.getElem?_map, he, Option.map_some, Option.some.injEq]
 by_cases hab : endA es e = endB es e
 ·have := h3 hab
  subst this
  constructor
  ·intro h; omega
  intro h
  rw [hab] at h
  unfold srt at h
  rw [Prod.mk.injEq] at h; omega
 obtain ⟨rfl, rfl⟩ := h4 hab
 exact L5 hab huv
theorem FG (n : Nat) (es : List Pr) (d : Nat) : plcs (tab n (cnt es)) d n = ((List.range n).filter fun (v : Nat) => decide (degV es (v : Int) = d)).map fun (v : Nat) => (v : Int) := by
 unfold plcs
 congr 1
 apply List.filter_congr
 intro v hv
 rw [TN] at hv
 have : (tab n (cnt es))[v]? = some (cnt es v) := by
  unfold tab
  rw [List.getElem?_map, List.getElem?_range hv]; rfl
 rw [this]
 unfold cnt degV
 simp only [Option.some.injEq, decide_eq_decide]
 omega
theorem P0 (es : List Pr) : ∀ n : Nat, ((List.range n).filter fun (v : Nat) => decide (degV es (v : Int) = 0)).length + ((List.range n).filter fun (v : Nat) => decide (degV es (v : Int) = 2)).length + ((List.range n).filter fun (v : Nat) => decide (degV es (v : Int) ≠ 0 ∧ degV es (v : Int) ≠ 2)).length = n
 | 0 => rfl
 | n + 1 => by
  have ih := P0 es n
  rw [List.range_succ, List.filter_append, List.filter_append, List.filter_append, List.length_append, List.length_append, List.length_append]
  by_cases h0 : degV es (n : Int) = 0
  ·simp [h0] at ih ⊢; omega
  by_cases h2 : degV es (n : Int) = 2
  ·simp [h2] at ih ⊢; omega
  simp [h0, h2] at ih ⊢; omega
/-- As many as are neither bare nor inside of a chain. -/
theorem OZ (n : Nat) (es : List Pr) : (n : Int) - (plcs (tab n (cnt es)) 0 n).length - (plcs (tab n (cnt es)) 2 n).length = (brV es n).length := by
 have h := P0 es n
 have e0 : plcs (tab n (cnt es)) 0 n = _ := FG n es 0
 have e2 : plcs (tab n (cnt es)) 2 n = _ := FG n es 2
 rw [e0, e2]
 unfold brV
 simp only [List.length_map]
 omega
theorem CN {α : Type} {p q : α → Bool} : ∀ {l : List α}, (∀ x, p x = true → q x = true) → (l.filter p).length = (l.filter q).length → l.filter p = l.filter q
 | [], _, _ => rfl
 | x :: r, h, hl => by
  have hle : ∀ r : List α, (r.filter p).length ≤ (r.filter q).length := fun r => by
   induction r with
   | nil => exact Nat.le_refl _
   | cons y r ih =>
    rw [List.filter_cons, List.filter_cons]
    by_cases hp : p y = true
    ·rw [if_pos hp, if_pos (h y hp)]; simp; exact ih
    rw [if_neg hp]; split
    ·simp; omega
    exact ih
  have := hle r
  rw [List.filter_cons, List.filter_cons] at hl ⊢
  by_cases hp : p x = true
  ·rw [if_pos hp, if_pos (h x hp)] at hl ⊢
   simp at hl
   rw [CN h hl]
  rw [if_neg hp] at hl ⊢
  by_cases hq : q x = true
  ·rw [if_pos hq] at hl; simp at hl; omega
  rw [if_neg hq] at hl ⊢
  exact CN h hl
/-- If as many have degree d as there are others, the branching ones are those of degree d. -/
theorem Ij {n : Nat} {es : List Pr} {d : Nat} (h0 : d ≠ 0) (h2 : d ≠ 2) (h : (plcs (tab n (cnt es)) d n).length = (brV es n).length) : plcs (tab n (cnt es)) d n = brV es n ∧ ∀ v, v ∈ brV es n → degV es v = d := by
 have e := FG n es d
 have hb : plcs (tab n (cnt es)) d n = brV es n := by
  rw [e] at h ⊢
  unfold brV at h ⊢
  rw [List.length_map, List.length_map] at h
  rw [CN (fun x hx => ?_) h]
  simp only [decide_eq_true_eq] at hx ⊢
  rw [hx]; exact ⟨h0, h2⟩
 refine ⟨hb, fun v hv => ?_⟩
 rw [← hb, e, List.mem_map] at hv
 obtain ⟨x, hx, rfl⟩ := hv
 rw [List.mem_filter] at hx
 simpa using hx.2
theorem GI {n : Nat} {es : List Pr} {d : Nat} (h0 : d ≠ 0) (h2 : d ≠ 2) (h : ∀ v, v ∈ brV es n → degV es v = d) : plcs (tab n (cnt es)) d n = brV es n := by
 rw [FG]
 unfold brV at h ⊢
 congr 1
 apply List.filter_congr
 intro v hv
 by_cases hd : degV es (v : Int) = d
 ·rw [decide_eq_true hd, decide_eq_true ⟨by rw [hd]; exact h0, by rw [hd]; exact h2⟩]
 rw [decide_eq_false hd]
 symm
 rw [decide_eq_false_iff_not]
 intro hh
 exact hd (h v (List.mem_map.2 ⟨v, List.mem_filter.2 ⟨hv, by simpa using hh⟩, rfl⟩))
/-- A piece of memory that holds lists of numbers. -/
def LstC (c : Chunk) (v : Value) (ls : List (List Int)) : Prop := ∀ (w0 : World) (K : List Nat) (w : World) (L : List Chunk) (i : Nat), Own w0 K w L → L[i]? = some c → LsV w v ls
theorem JF {n : Nat} {es : List Pr} {va : Value} {w : World} (hg : PrV w va es) (hV : Vld n es) :
  Calls Tryz.prog 67 #[.agg #[.int .i64 n, va]] w (Ret w [] fun r M => ∃ A k c ch ls, r = .tuple #[.slice A k ch, .int .i64 0] ∧ k = ls.length ∧ ls.length = (endsU es es.length).length ∧ EdL ls (endsU es es.length) ∧ M = [c] ∧ LstC c (.slice A k ch) ls) := by
 have hfew := hV.few
 refine Calls.mono (GP hg hV) ?_
 rintro e w' ⟨r, L', rfl, ⟨v, rs, rfl, hR, rfl⟩, hO⟩
 have hE := MD hR (by omega)
 have hsl := Ex (es := es) es.length
 have hrl := hR.len
 obtain ⟨A, len, cap, rfl, hl, _⟩ := BW hO
 rw [rowsV_length, Nat.mul_one] at hl
 refine ⟨_, [pk (slc (.slice A len cap) 44 1 (rowsV rs) :: rowsC 3 rs)], rfl, ⟨A, len, _, cap, rs.map Prod.snd, rfl, by rw [List.length_map]; exact hl.symm, hE.1, hE, rfl, ?_⟩, Gi (by simpa using hO)⟩
 intro w0 K w L i hw hi
 have h2 := (D2 i hi hw).sub (List.sublist_append_left _ _)
 exact JO (F := []) (by simpa using h2) (by omega) (fun p hp => by
  have := Ge hR hp
  omega)
theorem Oh {n : Nat} {es : List Pr} (h4 : (plcs (tab n (cnt es)) 4 n).length = 5) (hb : (brV es n).length = 5) (hl : (endsU es es.length).length = 10) : KuraOk n es ↔ ∀ q, q ∈ pairsOf (plcs (tab n (cnt es)) 4 n) → (endsU es es.length).count q = 1 := by
 obtain ⟨e, hd⟩ := Ij (n := n) (es := es) (d := 4) (by omega) (by omega) (h4.trans hb.symm)
 have e : plcs (tab n (cnt es)) 4 n = brV es n := e
 rw [e]
 constructor
 ·rintro ⟨d, h1, h2⟩
  rcases (HR (DO es n)).1 h2 with ⟨_, _, _, h⟩ | ⟨h, _⟩
  ·exact h
  omega
 intro h
 exact ⟨4, hd, (HR (DO es n)).2 (.inl ⟨hb, rfl, hl, h⟩)⟩
theorem Pq {n : Nat} {es : List Pr} (h3 : (plcs (tab n (cnt es)) 3 n).length = 6) (hb : (brV es n).length = 6) (hl : (endsU es es.length).length = 9) : KuraOk n es ↔ ∀ q, q ∈ crossOf (sidesR (endsU es es.length) (plcs (tab n (cnt es)) 3 n)) → (endsU es es.length).count q = 1 := by
 obtain ⟨e, hd⟩ := Ij (n := n) (es := es) (d := 3) (by omega) (by omega) (h3.trans hb.symm)
 have e : plcs (tab n (cnt es)) 3 n = brV es n := e
 rw [e]
 constructor
 ·rintro ⟨d, h1, h2⟩
  rcases (HR (DO es n)).1 h2 with ⟨h, _⟩ | ⟨_, _, _, h⟩
  ·omega
  exact h
 intro h
 exact ⟨3, hd, (HR (DO es n)).2 (.inr ⟨hb, rfl, hl, h⟩)⟩
theorem Og {n : Nat} {es : List Pr} (h5 : ¬ ((plcs (tab n (cnt es)) 4 n).length = 5 ∧ (brV es n).length = 5 ∧ (endsU es es.length).length = 10)) (h6 : ¬ ((plcs (tab n (cnt es)) 3 n).length = 6 ∧ (brV es n).length = 6 ∧ (endsU es es.length).length = 9)) : ¬ KuraOk n es := by
 rintro ⟨d, h1, h2⟩
 rcases (HR (DO es n)).1 h2 with ⟨ha, rfl, hb, _⟩ | ⟨ha, rfl, hb, _⟩
 ·have e : plcs (tab n (cnt es)) 4 n = brV es n := GI (n := n) (es := es) (d := 4) (by omega) (by omega) h1
  exact h5 ⟨by rw [e]; exact ha, ha, hb⟩
 have e : plcs (tab n (cnt es)) 3 n = brV es n := GI (n := n) (es := es) (d := 3) (by omega) (by omega) h1
 exact h6 ⟨by rw [e]; exact ha, ha, hb⟩
/-- The pairs of places that are asked for. -/
def wantK (kd : Int) (i j : Nat) : Prop := i < j ∧ (kd = 2 → i < 3 ∧ 3 ≤ j)
theorem LX {B : List Int} {E : List Pr} : (∀ q, q ∈ pairsOf B → E.count q = 1) ↔ ∀ (i j : Nat) (x y : Int), wantK 1 i j → B[i]? = some x → B[j]? = some y → E.count (srt x y) = 1 := by
 constructor
 ·intro h i j x y hw hx hy
  exact h _ (C5.2 ⟨i, j, x, y, hw.1, hx, hy, rfl⟩)
 intro h q hq
 obtain ⟨i, j, x, y, hij, hx, hy, rfl⟩ := C5.1 hq
 exact h i j x y ⟨hij, by omega⟩ hx hy
theorem LY {B : List Int} {E : List Pr} : (∀ q, q ∈ crossOf B → E.count q = 1) ↔ ∀ (i j : Nat) (x y : Int), wantK 2 i j → B[i]? = some x → B[j]? = some y → E.count (srt x y) = 1 := by
 constructor
 ·intro h i j x y hw hx hy
  exact h _ (Dy.2 ⟨i, j, x, y, (hw.2 rfl).1, (hw.2 rfl).2, hx, hy, rfl⟩)
 intro h q hq
 obtain ⟨i, j, x, y, hi, hj, hx, hy, rfl⟩ := Dy.1 hq
 exact h i j x y ⟨by omega, fun _ => ⟨hi, hj⟩⟩ hx hy
theorem ET {l : List Int} {d : Int} {v : Value} {w : World} (hl : SlV w v l) (hn : l.length ≤ 1000000000) :
  Calls Tryz.prog 68 #[v, .int .i64 d] w (Ret w [] fun r M => ∃ A k c, r = .slice A k c ∧ k = (plcs l d l.length).length ∧ M = [slc r 3 1 (ints (plcs l d l.length))]) := by
 refine Calls.mono (KM hl hn) ?_
 rintro e w' ⟨r, L', rfl, rfl, hO⟩
 obtain ⟨A, len, cap, rfl, hk, _⟩ := BW hO
 rw [ints_length, Nat.mul_one] at hk
 exact ⟨_, _, rfl, ⟨A, _, cap, rfl, hk.symm, rfl⟩, hO⟩
theorem JE {cs : List (List Int)} {E : List Pr} {B : List Int} {v vb : Value} {w : World} (hl : LsV w v cs) (hE : EdL cs E) (hB : SlV w vb B) (hnd : B.Nodup) (hn : cs.length ≤ 100000000) (hBn : B.length ≤ 100000000) :
  Calls Tryz.prog 69 #[v, vb] w (Ret w [] fun r M => ∃ A k c, r = .slice A k c ∧ k = (sidesR E B).length ∧ M = [slc r 3 1 (ints (sidesR E B))]) := by
 refine Calls.mono (Hu hl hE hB hnd hn hBn) ?_
 rintro e w' ⟨r, L', rfl, rfl, hO⟩
 obtain ⟨A, len, cap, rfl, hk, _⟩ := BW hO
 rw [ints_length, Nat.mul_one] at hk
 exact ⟨_, _, rfl, ⟨A, _, cap, rfl, hk.symm, rfl⟩, hO⟩
theorem Fh (l : List Int) (d : Int) (k : Nat) : (plcs l d k).Nodup := by
 unfold plcs List.Nodup
 rw [List.pairwise_map]
 exact (List.Nodup.sublist List.filter_sublist List.nodup_range).imp fun h => by omega
theorem Mx {P : Program} {w0 : World} {K : List Nat} {n : Nat} {ds : List Deferred} {E : Env} {L F : List Chunk} {o : Oper} {t m : Nat} {vs : List Value} (h : Gen P w0 K n ds E L o (fun v' M => M = slc v' t m vs :: F)) : Gen P w0 K n ds E L o (fun v' M => (∃ A l c, v' = .slice A l c ∧ vs.length = l * m) ∧ M = slc v' t m vs :: F) := by
 intro a w ha hw
 refine (h a w ha hw).mono ?_
 rintro v w' ⟨L', rfl, hO⟩
 obtain ⟨A, len, cap, e, h1, _⟩ := BW hO
 exact ⟨_, ⟨⟨A, len, cap, e, h1⟩, rfl⟩, hO⟩
theorem F0 {P : Program} {f : FuncId} {args : Array Value} {w : World} {D : Value → Prop} (h : Calls P f args w (Ret w [] fun r _ => D r)) : Calls P f args w (Ret w [] fun r M => M = [] ∧ D r) := by
 refine Calls.mono h ?_
 rintro e w' ⟨r, L', he, hD, hO⟩
 exact ⟨r, [], he, ⟨rfl, hD⟩, hO.sub (TH _)⟩
structure SnI where
 kd : Int
 A : Option Addr
 l : Nat
 c : Nat
 B : List Int
structure JnI where
 kd : Int
 A : Option Addr
 l : Nat
 c : Nat
structure RgI2 where
 i : Nat
 A : Option Addr
 l : Nat
 c : Nat
 vs : List Value
/-- How many pairs of places have been asked for ahead of i. -/
def cumK (kd : Int) : Nat → Nat
 | 0 => 0
 | i + 1 => cumK kd i + if kd = 2 then (if i < 3 then 3 else 0) else 4 - i
def innK (kd : Int) (i j : Nat) : Nat := if kd = 2 then (if i < 3 then j - 3 else 0) else j - (i + 1)
theorem Ms (kd : Int) (i : Nat) : innK kd i (i + 1) = 0 := by
 unfold innK
 split
 ·split <;> omega
 exact Nat.sub_self _
theorem Py {kd : Int} {i j : Nat} (h : wantK kd i j) : innK kd i (j + 1) = innK kd i j + 1 := by
 obtain ⟨h1, h2⟩ := h
 unfold innK
 by_cases hk : kd = 2
 ·have := h2 hk
  rw [if_pos hk, if_pos hk, if_pos this.1, if_pos this.1]; omega
 rw [if_neg hk, if_neg hk]; omega
theorem Nq {kd : Int} {i j : Nat} (hij : i < j) (h : ¬ wantK kd i j) : innK kd i (j + 1) = innK kd i j := by
 unfold innK wantK at *
 by_cases hk : kd = 2
 ·rw [if_pos hk, if_pos hk]
  split
  ·have : ¬ 3 ≤ j := fun h3 => h ⟨hij, fun _ => ⟨by omega, h3⟩⟩
   omega
  rfl
 exact absurd ⟨hij, fun h => absurd h hk⟩ h
theorem Ow {kd : Int} {i n m : Nat} (h : (kd = 1 ∧ n = 5 ∧ m = 10) ∨ (kd = 2 ∧ n = 6 ∧ m = 9)) : cumK kd (i + 1) = cumK kd i + innK kd i n := by
 show cumK kd i + _ = _
 congr 1
 unfold innK
 rcases h with ⟨rfl, rfl, rfl⟩ | ⟨rfl, rfl, rfl⟩
 ·simp <;> omega
 simp
theorem PZ {kd : Int} {n m : Nat} (h : (kd = 1 ∧ n = 5 ∧ m = 10) ∨ (kd = 2 ∧ n = 6 ∧ m = 9)) : cumK kd n = m := by
 rcases h with ⟨rfl, rfl, rfl⟩ | ⟨rfl, rfl, rfl⟩ <;> decide
theorem Q3 {kd : Int} {i : Nat} : cumK kd i ≤ 4 * i := by
 induction i with
 | zero => exact Nat.le_refl _
 | succ i ih =>
  show cumK kd i + _ ≤ _
  split
  ·split <;> omega
  omega
theorem QQ {kd : Int} {i j : Nat} : innK kd i j ≤ j := by
 unfold innK
 split
 ·split <;> omega
 omega
theorem Fg {n : Nat} {es : List Pr} {va : Value} {w : World} (hg : PrV w va es) (hV : Vld n es) :
  Calls Tryz.prog 34 #[.agg #[.int .i64 n, va]] w (Ret w [] fun r M => M = [] ∧ ∃ kd A l c A' l' c' b, r = .tuple #[.agg #[.int .i64 kd, .slice A l c, .slice A' l' c'], .bool b, .int .i64 0] ∧ (b = true ↔ KuraOk n es)) := by
 have hg0 := hg
 have hfew := hV.few
 have hnm := hV.hi
 obtain ⟨A, cap, rfl, hr, hlc, hcm, hle⟩ := hg
 refine Ao (K := []) (args := [_]) (L := []) Tryz.func34 rfl Tryz.ntmps34 rfl (Own.start _ _) ?_
 refine Zs ?_
 refine Zw (Ba rfl rfl rfl) fun g1 => ?_
 refine Zw (AD rfl Jn rfl) fun g2 => ?_
 iterate 2 refine Za ?_
 refine Zx <| Zs ?_
 refine Zu (Ay (vs := [_, _]) rfl rfl Bn Bg rfl (Ak rfl)) ?_
 refine Seq.rel rfl rfl (Ar SA rfl rfl rfl (fun w hw => En (hg0.keep0 hw) hV)) ?_
 rintro _ _ ⟨gd, rfl, rfl⟩
 refine Zm ?_
 iterate 2 refine Ze ?_
 iterate 2 refine Za ?_
 refine Zx <| DC.seq <| Zs ?_
 refine Zm ?_
 refine Zo (BK rfl rfl rfl) ?_
 refine Zx ?_
 refine Zd (fun c2 => ?_) fun c2 => ?_
 ·simp at c2
 refine DC.skip <| Fin.then <| DC.seq ?_
 simp only [zs]
 refine DC.region ?_
 refine Zu (Ay (vs := [_, _]) rfl rfl Bn Bg rfl (Ak rfl)) ?_
 refine Seq.rel rfl rfl (Ar en67 rfl rfl rfl (fun w hw => JF (hg0.keep0 hw) hV)) ?_
 rintro _ _ ⟨Ac, kc, cc, chc, ls, rfl, rfl, hll, hE, rfl, hcc⟩
 refine Zm ?_
 iterate 2 refine Ze ?_
 iterate 2 refine Za ?_
 refine Zx <| DC.seq ?_
 simp only [zs]
 have hti : (tab n (cnt es)).length = n := by simp
 refine DC.region ?_
 refine Zm ?_
 refine Seq.rel rfl rfl (Ar QY rfl rfl rfl (fun w hw => ET (l := tab n (cnt es)) (B4 (g := gd) hw rfl (by simp) (by omega)) (by simp; omega))) ?_
 rintro _ _ ⟨A2, k2, c2', rfl, hk2, rfl⟩
 refine Za ?_
 refine Zx <| DC.seq ?_
 simp only [zs]
 rw [hti] at hk2 ⊢
 have hk2n : k2 ≤ n := by rw [hk2]; exact EC ..
 refine AF (cl := [.q, .v, .q, .r, .q, .q, .q, .q, .q, .q]) (A := [0, 1, 0, 4, 12, 31, 0, 64, 255, 511]) (order := [0, 1, 2, 3, 4, 5, 6, 7, 8, 9]) [] mixed (by kernel_rfl) (fun w hw => hw.pick .nil) ?_
 refine Yf BI ?_
 refine Yl AJ ?_
 refine Ym ?_
 refine DR (V := [slc (.slice A2 k2 c2') 3 1 (ints (plcs (tab n (cnt es)) 2 n)), cc, blk gd 3 (ints (tab n (cnt es))).toArray, blk g2 77 #[.int .i64 0, .slice none 0 0, .slice none 0 0], blk g1 24 #[.int .i64 n, .slice A es.length cap]]) rfl rfl rfl rfl (by kernel_rfl) (Ar QY rfl rfl rfl (fun w hw => ET (l := tab n (cnt es)) (B4 (g := gd) hw rfl (by simp) (by omega)) (by simp; omega))) ?_
 rintro _ _ ⟨A0, k0, c0', rfl, hk0, rfl⟩
 have hk0n : k0 ≤ n := by rw [hk0, hti]; exact EC ..
 rw [hti] at hk0 ⊢
 refine Yo rfl (CC rfl rfl TT) ?_
 refine Yo rfl (Bv rfl rfl rfl (by omega)) ?_
 refine Ym ?_
 refine Yo rfl (CC rfl rfl TT) ?_
 refine Yo rfl (Bv rfl rfl rfl (by omega)) ?_
 refine Yo rfl (AR rfl rfl) ?_
 refine Flow.end rfl ?_
 simp only [zq, zr]
 refine Fin.then <| DC.seq ?_
 have hrest : (n : Int) - k0 - k2 = (brV es n).length := by rw [hk0, hk2]; exact OZ n es
 refine DC.region ?_
 refine Zm ?_
 refine Seq.rel rfl rfl (Ar QY rfl rfl rfl (fun w hw => ET (l := tab n (cnt es)) (B4 (g := gd) hw rfl (by simp) (by omega)) (by simp; omega))) ?_
 rintro _ _ ⟨A4, k4, c4', rfl, hk4, rfl⟩
 refine Za ?_
 refine Zx <| DC.seq ?_
 simp only [zs]
 rw [hti] at hk4 ⊢
 refine DC.region ?_
 refine Zm ?_
 refine Seq.rel rfl rfl (Ar QY rfl rfl rfl (fun w hw => ET (l := tab n (cnt es)) (B4 (g := gd) hw rfl (by simp) (by omega)) (by simp; omega))) ?_
 rintro _ _ ⟨A3, k3, c3', rfl, hk3, rfl⟩
 refine Za ?_
 refine Zx <| DC.seq ?_
 simp only [zs]
 rw [hti] at hk3 ⊢
 refine DC.region ?_
 refine Zo (AA (cs := #[_, _, _]) rfl rfl Ii rfl rfl) ?_
 refine Zw (AD rfl Jn rfl) fun g13 => ?_
 refine Zy (At (cs' := #[_, _, _]) rfl rfl rfl Cm rfl (TB rfl) rfl) ?_
 refine Zx ?_
 refine DC.cut (ι := JnI) (fun j => (j.kd = 1 ∧ j.A = A4 ∧ j.l = k4 ∧ j.c = c4' ∧ (k4 = 5 ∧ (n : Int) - k0 - k2 = 5 ∧ ls.length = 10)) ∨ (j.kd = 0 ∧ j.A = none ∧ j.l = 0 ∧ j.c = 0 ∧ ¬ (k4 = 5 ∧ (n : Int) - k0 - k2 = 5 ∧ ls.length = 10)))
  (fun j => [(2, .pointer (some ⟨g2, 0, none⟩)), (7, .slice Ac ls.length chc), (10, .int .i64 ((n : Int) - k0 - k2)), (12, .slice A3 k3 c3'), (13, .pointer (some ⟨g13, 0, none⟩))])
  (fun j => [blk g13 77 #[.int .i64 j.kd, .slice j.A j.l j.c, .slice none 0 0], slc (.slice A3 k3 c3') 3 1 (ints (plcs (tab n (cnt es)) 3 n)), slc (.slice A4 k4 c4') 3 1 (ints (plcs (tab n (cnt es)) 4 n)), cc, blk g2 77 #[.int .i64 0, .slice none 0 0, .slice none 0 0]]) ?first12 ?rest12
 case first12 =>
  refine Zs ?_
  refine Zm ?_
  refine Zn TT ?_
  refine Zo (AN rfl rfl rfl) ?_
  refine Zm ?_
  refine Seq.split 51 rfl (fun k10_3 => ?_) (fun k10_3 => ?_)
  ·refine Zm ?_
   refine Zo (AN rfl rfl rfl) ?_
   refine Zt ?_
   refine Zm ?_
   refine Seq.split 55 rfl (fun k10_7 => ?_) (fun k10_7 => ?_)
   ·refine Zm ?_
    refine Zn TW ?_
    refine Zo (AN rfl rfl rfl) ?_
    refine Zt ?_
    refine Zx ?_
    refine Zd (fun c10 => ?_) fun c10 => ?_
    ·refine Zs ?_
     refine Zf JY ?_
     refine Zy (AE (cs' := #[_, _, _]) rfl rfl rfl AQ rfl (TB rfl) rfl) ?_
     refine Zx <| DC.region ?_
     refine Zm ?_
     refine Zf Gv ?_
     refine Zy (AE (cs' := #[_, _, _]) rfl rfl rfl BE rfl (TB rfl) rfl) ?_
     refine Seq.nil ?_
     first
     | (refine AG ⟨1, A4, k4, c4'⟩ (.inl ⟨rfl, rfl, rfl, rfl, ?_⟩) ⟨rfl, rfl, rfl, rfl, rfl, trivial⟩ (.cons 0 rfl (.cons 0 rfl (.cons 0 rfl (.cons 2 rfl (.cons 3 rfl .nil)))))
        simp at *; omega)
     | (refine AG ⟨0, none, 0, 0⟩ (.inr ⟨rfl, rfl, rfl, rfl, ?_⟩) ⟨rfl, rfl, rfl, rfl, rfl, trivial⟩ (.cons 0 rfl (.cons 0 rfl (.cons 0 rfl (.cons 2 rfl (.cons 3 rfl .nil)))))
        simp at *; omega)
    refine DC.skip ?_
    first
    | (refine AG ⟨1, A4, k4, c4'⟩ (.inl ⟨rfl, rfl, rfl, rfl, ?_⟩) ⟨rfl, rfl, rfl, rfl, rfl, trivial⟩ (.cons 0 rfl (.cons 0 rfl (.cons 0 rfl (.cons 2 rfl (.cons 3 rfl .nil)))))
       simp at *; omega)
    | (refine AG ⟨0, none, 0, 0⟩ (.inr ⟨rfl, rfl, rfl, rfl, ?_⟩) ⟨rfl, rfl, rfl, rfl, rfl, trivial⟩ (.cons 0 rfl (.cons 0 rfl (.cons 0 rfl (.cons 2 rfl (.cons 3 rfl .nil)))))
       simp at *; omega)
   iterate 3 refine Zk ?_
   refine Zg ?_
   refine Zx ?_
   refine AT rfl ?_
   refine DC.skip ?_
   first
   | (refine AG ⟨1, A4, k4, c4'⟩ (.inl ⟨rfl, rfl, rfl, rfl, ?_⟩) ⟨rfl, rfl, rfl, rfl, rfl, trivial⟩ (.cons 0 rfl (.cons 0 rfl (.cons 0 rfl (.cons 2 rfl (.cons 3 rfl .nil)))))
      simp at *; omega)
   | (refine AG ⟨0, none, 0, 0⟩ (.inr ⟨rfl, rfl, rfl, rfl, ?_⟩) ⟨rfl, rfl, rfl, rfl, rfl, trivial⟩ (.cons 0 rfl (.cons 0 rfl (.cons 0 rfl (.cons 2 rfl (.cons 3 rfl .nil)))))
      simp at *; omega)
  iterate 2 refine Zk ?_
  refine Zg ?_
  refine Zm ?_
  iterate 3 refine Zk ?_
  refine Zg ?_
  refine Zx ?_
  refine AT rfl ?_
  refine DC.skip ?_
  first
  | (refine AG ⟨1, A4, k4, c4'⟩ (.inl ⟨rfl, rfl, rfl, rfl, ?_⟩) ⟨rfl, rfl, rfl, rfl, rfl, trivial⟩ (.cons 0 rfl (.cons 0 rfl (.cons 0 rfl (.cons 2 rfl (.cons 3 rfl .nil)))))
     simp at *; omega)
  | (refine AG ⟨0, none, 0, 0⟩ (.inr ⟨rfl, rfl, rfl, rfl, ?_⟩) ⟨rfl, rfl, rfl, rfl, rfl, trivial⟩ (.cons 0 rfl (.cons 0 rfl (.cons 0 rfl (.cons 2 rfl (.cons 3 rfl .nil)))))
     simp at *; omega)
 rintro ⟨kd, A, l, c⟩ hj
 have hp3 := EC (tab n (cnt es)) 3 n
 have hp4 := EC (tab n (cnt es)) 4 n
 dsimp only at hj ⊢
 refine DC.cut (ι := SnI) (fun j => j.l = j.B.length ∧ ((j.kd = 0 ∧ j.B = [] ∧ ¬ (k4 = 5 ∧ (n : Int) - k0 - k2 = 5 ∧ ls.length = 10) ∧ ¬ (k3 = 6 ∧ (n : Int) - k0 - k2 = 6 ∧ ls.length = 9)) ∨ (j.kd = 1 ∧ j.B = plcs (tab n (cnt es)) 4 n ∧ (k4 = 5 ∧ (n : Int) - k0 - k2 = 5 ∧ ls.length = 10)) ∨ (j.kd = 2 ∧ j.B = sidesR (endsU es es.length) (plcs (tab n (cnt es)) 3 n) ∧ (k3 = 6 ∧ (n : Int) - k0 - k2 = 6 ∧ ls.length = 9))))
  (fun j => [(2, .pointer (some ⟨g2, 0, none⟩)), (7, .slice Ac ls.length chc), (13, .pointer (some ⟨g13, 0, none⟩))])
  (fun j => [blk g13 77 #[.int .i64 j.kd, .slice j.A j.l j.c, .slice none 0 0], slc (.slice j.A j.l j.c) 3 1 (ints j.B), cc, blk g2 77 #[.int .i64 0, .slice none 0 0, .slice none 0 0]]) ?first15 ?rest15
 case first15 =>
  refine Zs ?_
  refine Zm ?_
  refine Zn TT ?_
  refine Zo (AN rfl rfl rfl) ?_
  refine Zm ?_
  refine Seq.split 66 rfl (fun k13_3 => ?_) (fun k13_3 => ?_)
  ·refine Zm ?_
   refine Zo (AN rfl rfl rfl) ?_
   refine Zt ?_
   refine Zm ?_
   refine Seq.split 70 rfl (fun k13_7 => ?_) (fun k13_7 => ?_)
   ·refine Zm ?_
    refine Zn TW ?_
    refine Zo (AN rfl rfl rfl) ?_
    refine Zt ?_
    refine Zx ?_
    refine Zd (fun c13 => ?_) fun c13 => ?_
    ·refine Zs ?_
     refine Zf JY ?_
     refine Zy (AE (cs' := #[_, _, _]) rfl rfl rfl AQ rfl (TB rfl) rfl) ?_
     refine Zx <| DC.region ?_
     iterate 2 refine Zm ?_
     refine Seq.rel rfl rfl (Ar en69 rfl rfl rfl (fun w hw => JE (hcc _ _ _ _ 3 hw rfl) hE (Ck hw 1 rfl (by omega)) (Fh ..) (by simp at c13; omega) (by omega))) ?_
     rintro _ _ ⟨A5, k5, c5', rfl, hk5, rfl⟩
     simp only [zs]
     refine Zf Gv ?_
     refine Zy (AE (cs' := #[_, _, _]) rfl rfl rfl BE rfl (TB rfl) rfl) ?_
     refine Seq.nil ?_
     first
     | (refine AG ⟨2, A5, k5, c5', _⟩ ⟨hk5, .inr (.inr ⟨rfl, rfl, ?_⟩)⟩ ⟨rfl, rfl, rfl, trivial⟩ (.cons 1 rfl (.cons 0 rfl (.cons 2 rfl (.cons 2 rfl .nil))))
        simp at *; omega)
     | (rcases hj with ⟨rfl, rfl, rfl, rfl, hj⟩ | ⟨rfl, rfl, rfl, rfl, hj⟩
        ·refine AG ⟨1, _, _, _, _⟩ ⟨hk4, .inr (.inl ⟨rfl, rfl, hj⟩)⟩ ⟨rfl, rfl, rfl, trivial⟩ (.cons 0 rfl (.cons 1 rfl (.cons 1 rfl (.cons 1 rfl .nil))))
        ·refine Fin.own (fun w hw => AX (t := 3) (m := 1) hw) ?_
         refine AG ⟨0, none, 0, 0, []⟩ ⟨rfl, .inl ⟨rfl, rfl, hj, ?_⟩⟩ ⟨rfl, rfl, rfl, trivial⟩ (.cons 1 rfl (.cons 0 rfl (.cons 2 rfl (.cons 2 rfl .nil))))
         simp at *; omega)
    refine DC.skip ?_
    first
    | (refine AG ⟨2, A5, k5, c5', _⟩ ⟨hk5, .inr (.inr ⟨rfl, rfl, ?_⟩)⟩ ⟨rfl, rfl, rfl, trivial⟩ (.cons 1 rfl (.cons 0 rfl (.cons 2 rfl (.cons 2 rfl .nil))))
       simp at *; omega)
    | (rcases hj with ⟨rfl, rfl, rfl, rfl, hj⟩ | ⟨rfl, rfl, rfl, rfl, hj⟩
       ·refine AG ⟨1, _, _, _, _⟩ ⟨hk4, .inr (.inl ⟨rfl, rfl, hj⟩)⟩ ⟨rfl, rfl, rfl, trivial⟩ (.cons 0 rfl (.cons 1 rfl (.cons 1 rfl (.cons 1 rfl .nil))))
       ·refine Fin.own (fun w hw => AX (t := 3) (m := 1) hw) ?_
        refine AG ⟨0, none, 0, 0, []⟩ ⟨rfl, .inl ⟨rfl, rfl, hj, ?_⟩⟩ ⟨rfl, rfl, rfl, trivial⟩ (.cons 1 rfl (.cons 0 rfl (.cons 2 rfl (.cons 2 rfl .nil))))
        simp at *; omega)
   iterate 3 refine Zk ?_
   refine Zg ?_
   refine Zx ?_
   refine AT rfl ?_
   refine DC.skip ?_
   first
   | (refine AG ⟨2, A5, k5, c5', _⟩ ⟨hk5, .inr (.inr ⟨rfl, rfl, ?_⟩)⟩ ⟨rfl, rfl, rfl, trivial⟩ (.cons 1 rfl (.cons 0 rfl (.cons 2 rfl (.cons 2 rfl .nil))))
      simp at *; omega)
   | (rcases hj with ⟨rfl, rfl, rfl, rfl, hj⟩ | ⟨rfl, rfl, rfl, rfl, hj⟩
      ·refine AG ⟨1, _, _, _, _⟩ ⟨hk4, .inr (.inl ⟨rfl, rfl, hj⟩)⟩ ⟨rfl, rfl, rfl, trivial⟩ (.cons 0 rfl (.cons 1 rfl (.cons 1 rfl (.cons 1 rfl .nil))))
      ·refine Fin.own (fun w hw => AX (t := 3) (m := 1) hw) ?_
       refine AG ⟨0, none, 0, 0, []⟩ ⟨rfl, .inl ⟨rfl, rfl, hj, ?_⟩⟩ ⟨rfl, rfl, rfl, trivial⟩ (.cons 1 rfl (.cons 0 rfl (.cons 2 rfl (.cons 2 rfl .nil))))
       simp at *; omega)
  iterate 2 refine Zk ?_
  refine Zg ?_
  refine Zm ?_
  iterate 3 refine Zk ?_
  refine Zg ?_
  refine Zx ?_
  refine AT rfl ?_
  refine DC.skip ?_
  first
  | (refine AG ⟨2, A5, k5, c5', _⟩ ⟨hk5, .inr (.inr ⟨rfl, rfl, ?_⟩)⟩ ⟨rfl, rfl, rfl, trivial⟩ (.cons 1 rfl (.cons 0 rfl (.cons 2 rfl (.cons 2 rfl .nil))))
     simp at *; omega)
  | (rcases hj with ⟨rfl, rfl, rfl, rfl, hj⟩ | ⟨rfl, rfl, rfl, rfl, hj⟩
     ·refine AG ⟨1, _, _, _, _⟩ ⟨hk4, .inr (.inl ⟨rfl, rfl, hj⟩)⟩ ⟨rfl, rfl, rfl, trivial⟩ (.cons 0 rfl (.cons 1 rfl (.cons 1 rfl (.cons 1 rfl .nil))))
     ·refine Fin.own (fun w hw => AX (t := 3) (m := 1) hw) ?_
      refine AG ⟨0, none, 0, 0, []⟩ ⟨rfl, .inl ⟨rfl, rfl, hj, ?_⟩⟩ ⟨rfl, rfl, rfl, trivial⟩ (.cons 1 rfl (.cons 0 rfl (.cons 2 rfl (.cons 2 rfl .nil))))
      simp at *; omega)
 rintro ⟨kd5, A5, l5, c5, B⟩ ⟨hlB, hs⟩
 dsimp only at hlB hs ⊢
 subst hlB
 rw [hrest, hk3, hk4, hE.1] at hs
 have hBl : B.length ≤ 6 := by
  rcases hs with ⟨_, rfl, _⟩ | ⟨_, rfl, h, _⟩ | ⟨_, rfl, h, _⟩
  ·exact Nat.zero_le _
  ·omega
  rw [(Dx _ _).length_eq]; omega
 refine DC.seq <| Zs ?_
 refine Zf JY ?_
 refine Zl Tv ?_
 refine Zo (AN rfl rfl rfl) ?_
 refine Zx ?_
 refine Zd (fun c16 => ?_) fun c16 => ?_
 ·have hno : ¬ KuraOk n es := by
   rcases hs with ⟨_, _, h5, h6⟩ | ⟨rfl, _⟩ | ⟨rfl, _⟩
   ·exact Og (fun h => h5 ⟨h.1, by rw [h.2.1]; rfl, h.2.2⟩) (fun h => h6 ⟨h.1, by rw [h.2.1]; rfl, h.2.2⟩)
   ·simp at c16
   simp at c16
  refine Zs ?_
  refine Zo (AA (cs := #[_, _, _]) rfl rfl Ii rfl rfl) ?_
  refine Zy (At (cs' := #[_, _, _]) rfl rfl rfl Cm rfl (TB rfl) rfl) ?_
  iterate 2 refine Za ?_
  refine Zx <| DC.ret <| Aa ?_
  refine Fin.weak (E' := [(2, .pointer (some ⟨g2, 0, none⟩)), (3, .bool false), (4, .int .i64 0)]) (L' := [blk g2 77 #[.int .i64 0, .slice none 0 0, .slice none 0 0]]) ⟨rfl, rfl, rfl, trivial⟩ (.cons 3 rfl .nil) ?_
  refine BP (cs := #[_, _, _]) (.inl rfl) rfl rfl rfl rfl EP Cm ?_
  exact ⟨[], fun w hw => hw.sub (TH _), rfl, _, _, _, _, _, _, _, false, rfl, by simp [hno]⟩
 have hkd : kd5 = 1 ∨ kd5 = 2 := by
  rcases hs with ⟨rfl, _⟩ | ⟨rfl, _⟩ | ⟨rfl, _⟩
  ·simp at c16
  ·exact .inl rfl
  exact .inr rfl
 have hlen : (kd5 = 1 ∧ B.length = 5 ∧ ls.length = 10) ∨ (kd5 = 2 ∧ B.length = 6 ∧ ls.length = 9) := by
  rw [hE.1]
  rcases hs with ⟨rfl, _⟩ | ⟨rfl, rfl, h, _, h2⟩ | ⟨rfl, rfl, h, _, h2⟩
  ·simp at c16
  ·exact .inl ⟨rfl, h, h2⟩
  exact .inr ⟨rfl, by rw [(Dx _ _).length_eq]; exact h, h2⟩
 have hBn : B.Nodup := by
  rcases hs with ⟨_, rfl, _⟩ | ⟨_, rfl, _⟩ | ⟨_, rfl, _⟩
  ·exact List.nodup_nil
  ·exact Fh ..
  exact (Dx _ _).nodup_iff.2 (Fh ..)
 have hiff : KuraOk n es ↔ ∀ (i j : Nat) (x y : Int), wantK kd5 i j → B[i]? = some x → B[j]? = some y → (endsU es es.length).count (srt x y) = 1 := by
  rcases hs with ⟨rfl, _⟩ | ⟨rfl, rfl, h, h1, h2⟩ | ⟨rfl, rfl, h, h1, h2⟩
  ·simp at c16
  ·rw [Oh h (by omega) h2, LX]
  rw [Pq h (by omega) h2, LY]
 refine MW 1 rfl ?_
 intro hA5
 rw [ints_length] at hA5
 obtain ⟨ad5, rfl⟩ := hA5 (by omega)
 refine DC.skip <| Fin.then <| DC.seq <| Zs ?_
 refine Za ?_
 refine Zx <| DC.block ?_
 refine DC.own (fun w hw => AX (t := 44) (m := 1) hw) ?_
 refine DC.loop (ι := RgI2) (fun q => q.i ≤ B.length ∧ q.vs.length = q.l ∧ q.l = cumK kd5 q.i ∧ ∀ (i' j' : Nat) (x y : Int), i' < q.i → wantK kd5 i' j' → B[i']? = some x → B[j']? = some y → (endsU es es.length).count (srt x y) = 1)
  (fun q => [(2, .pointer (some ⟨g2, 0, none⟩)), (7, .slice Ac ls.length chc), (13, .pointer (some ⟨g13, 0, none⟩)), (14, .int .i64 (q.i : Nat))])
  (fun q => [slc (.slice q.A q.l q.c) 44 1 q.vs, blk g13 77 #[.int .i64 kd5, .slice (some ad5) B.length c5, .slice q.A q.l q.c], slc (.slice (some ad5) B.length c5) 3 1 (ints B), cc, blk g2 77 #[.int .i64 0, .slice none 0 0, .slice none 0 0]])
  (fun q => B.length - q.i) ⟨0, none, 0, 0, []⟩ ⟨Nat.zero_le _, rfl, rfl, fun i' _ _ _ h => absurd h (TS _)⟩ ⟨rfl, rfl, rfl, rfl, trivial⟩ (.cons 0 rfl (.cons 0 rfl (.cons 0 rfl (.cons 0 rfl (.cons 0 rfl .nil))))) ?_
 rintro ⟨i, Ap, lp, cp, vs⟩ ⟨hi, hvs, hlp, hall⟩
 dsimp only at hi hvs hlp hall ⊢
 subst hlp
 have hcu := Q3 (kd := kd5) (i := i)
 refine DC.seq <| Zs ?_
 refine Zm ?_
 refine Zf Gv ?_
 refine Zl BA ?_
 refine Zn TT ?_
 refine Zc ?_
 refine Zx ?_
 refine Zd (fun c19 => ?_) fun c19 => ?_
 ·have hiB : i < B.length := by simpa using c19
  obtain ⟨x, hx⟩ : ∃ x, B[i]? = some x := ⟨_, Tz hiB⟩
  refine DC.skip <| Fin.then <| DC.seq <| DC.block <| Zs ?_
  refine Zm ?_
  refine Zp ?_
  refine Za ?_
  refine Zx <| DC.block ?_
  refine DC.loop (ι := RgI2) (fun q => i + 1 ≤ q.i ∧ q.i ≤ B.length ∧ q.vs.length = q.l ∧ q.l = cumK kd5 i + innK kd5 i q.i ∧ ∀ (j' : Nat) (y : Int), j' < q.i → wantK kd5 i j' → B[j']? = some y → (endsU es es.length).count (srt x y) = 1)
   (fun q => [(2, .pointer (some ⟨g2, 0, none⟩)), (7, .slice Ac ls.length chc), (13, .pointer (some ⟨g13, 0, none⟩)), (14, .int .i64 (i : Nat)), (15, .int .i64 (q.i : Nat))])
   (fun q => [slc (.slice q.A q.l q.c) 44 1 q.vs, blk g13 77 #[.int .i64 kd5, .slice (some ad5) B.length c5, .slice q.A q.l q.c], slc (.slice (some ad5) B.length c5) 3 1 (ints B), cc, blk g2 77 #[.int .i64 0, .slice none 0 0, .slice none 0 0]])
   (fun q => B.length - q.i) ⟨i + 1, Ap, cumK kd5 i, cp, vs⟩ ⟨Nat.le_refl _, hiB, hvs, by rw [Ms]; rfl, fun j' y h hw => absurd hw.1 (by dsimp only at h; omega)⟩ ⟨rfl, rfl, rfl, rfl, rfl, trivial⟩ (.cons 0 rfl (.cons 0 rfl (.cons 0 rfl (.cons 0 rfl (.cons 0 rfl .nil))))) ?_
  rintro ⟨j, Aq, lq, cq, ws⟩ ⟨hij, hj, hws, hlq, hrow⟩
  dsimp only at hij hj hws hlq hrow ⊢
  subst hlq
  have hin := QQ (kd := kd5) (i := i) (j := j)
  refine DC.seq <| Zs ?_
  refine Zm ?_
  refine Zf Gv ?_
  refine Zl BA ?_
  refine Zn TT ?_
  refine Zc ?_
  refine Zx ?_
  refine Zd (fun c22 => ?_) fun c22 => ?_
  ·have hjB : j < B.length := by simpa using c22
   obtain ⟨y, hy⟩ : ∃ y, B[j]? = some y := ⟨_, Tz hjB⟩
   have hne : x ≠ y := fun h => by
    subst h
    have := I3 hBn hx hy
    omega
   refine DC.skip <| Fin.then <| DC.seq <| DC.block ?_
   refine DC.cut (ι := Unit) (fun _ => wantK kd5 i j)
    (fun _ => [(2, .pointer (some ⟨g2, 0, none⟩)), (7, .slice Ac ls.length chc), (13, .pointer (some ⟨g13, 0, none⟩)), (14, .int .i64 (i : Nat)), (15, .int .i64 (j : Nat))])
    (fun _ => [slc (.slice Aq (cumK kd5 i + innK kd5 i j) cq) 44 1 ws, blk g13 77 #[.int .i64 kd5, .slice (some ad5) B.length c5, .slice Aq (cumK kd5 i + innK kd5 i j) cq], slc (.slice (some ad5) B.length c5) 3 1 (ints B), cc, blk g2 77 #[.int .i64 0, .slice none 0 0, .slice none 0 0]]) ?first24 ?rest24
   case first24 =>
    refine Zs ?_
    refine Zf JY ?_
    refine Zl Tv ?_
    refine Zo (AN rfl rfl rfl) ?_
    refine Zm ?_
    refine Seq.split 103 rfl (fun k24_3 => ?_) (fun k24_3 => ?_)
    ·refine Zm ?_
     refine Zo (Cc rfl rfl rfl) ?_
     refine Zm ?_
     refine Seq.split 106 rfl (fun k24_6 => ?_) (fun k24_6 => ?_)
     ·refine Zk ?_
      refine Zk ?_
      iterate 2 refine Zt ?_
      refine Zx ?_
      refine AI rfl ?_
      refine DC.exit <| Ad <| Ah <| Fin.then <| DC.region ?_
      refine Zm ?_
      refine Zp ?_
      refine Za ?_
      refine Seq.nil ?_
      have hnw : ¬ wantK kd5 i j := by
       intro h
       have h1 := h.2 (by simpa using k24_3)
       first
       | (simp at k24_6; omega)
       | (simp at c24; omega)
      refine Ag ⟨j + 1, Aq, cumK kd5 i + innK kd5 i j, cq, ws⟩ (by dsimp only; omega) ⟨by dsimp only; omega, by dsimp only; omega, hws, by dsimp only; rw [Nq (by omega) hnw], ?_⟩ ⟨rfl, rfl, rfl, rfl, rfl, trivial⟩ (.cons 0 rfl (.cons 0 rfl (.cons 0 rfl (.cons 0 rfl (.cons 0 rfl .nil)))))
      intro j' y' h hw hy'
      dsimp only at h
      rcases Nat.lt_or_ge j' j with h1 | h1
      ·exact hrow j' y' h1 hw hy'
      obtain rfl : j' = j := by omega
      exact absurd hw hnw
     refine Zm ?_
     refine Zc ?_
     refine Zg ?_
     refine Zt ?_
     refine Zx ?_
     refine Zd (fun c24 => ?_) fun c24 => ?_
     ·refine DC.exit <| Ad <| Ah <| Fin.then <| DC.region ?_
      refine Zm ?_
      refine Zp ?_
      refine Za ?_
      refine Seq.nil ?_
      have hnw : ¬ wantK kd5 i j := by
       intro h
       have h1 := h.2 (by simpa using k24_3)
       first
       | (simp at k24_6; omega)
       | (simp at c24; omega)
      refine Ag ⟨j + 1, Aq, cumK kd5 i + innK kd5 i j, cq, ws⟩ (by dsimp only; omega) ⟨by dsimp only; omega, by dsimp only; omega, hws, by dsimp only; rw [Nq (by omega) hnw], ?_⟩ ⟨rfl, rfl, rfl, rfl, rfl, trivial⟩ (.cons 0 rfl (.cons 0 rfl (.cons 0 rfl (.cons 0 rfl (.cons 0 rfl .nil)))))
      intro j' y' h hw hy'
      dsimp only at h
      rcases Nat.lt_or_ge j' j with h1 | h1
      ·exact hrow j' y' h1 hw hy'
      obtain rfl : j' = j := by omega
      exact absurd hw hnw
     refine DC.skip ?_
     refine AG () ?_ ⟨rfl, rfl, rfl, rfl, rfl, trivial⟩ (.cons 0 rfl (.cons 0 rfl (.cons 0 rfl (.cons 0 rfl (.cons 0 rfl .nil)))))
     unfold wantK
     first
     | (simp at *; omega)
     | (refine ⟨by omega, fun h => ?_⟩; simp [h] at *; omega)
     | (refine ⟨by omega, fun h => ?_⟩; simp at k24_3; omega)
    iterate 6 refine Zk ?_
    refine Zg ?_
    refine Zx ?_
    refine AT rfl ?_
    refine DC.skip ?_
    refine AG () ?_ ⟨rfl, rfl, rfl, rfl, rfl, trivial⟩ (.cons 0 rfl (.cons 0 rfl (.cons 0 rfl (.cons 0 rfl (.cons 0 rfl .nil)))))
    unfold wantK
    first
    | (simp at *; omega)
    | (refine ⟨by omega, fun h => ?_⟩; simp [h] at *; omega)
    | (refine ⟨by omega, fun h => ?_⟩; simp at k24_3; omega)
   rintro ⟨⟩ hwant
   refine DC.seq ?_
   refine AF (cl := [.q, .q, .v, .q, .q, .v, .q, .v, .q, .q, .v, .r, .q, .q, .q, .q, .q]) (A := [0, 0, 2, 0, 14, 30, 0, 64, 0, 448, 960, 2047, 4095, 8191, 8191, 16383, 65535]) (order := [0, 1, 2, 3, 4, 5, 6, 7, 8, 9, 10, 11, 12, 13, 14, 15, 16]) [] mixed (by kernel_rfl) (fun w hw => hw.pick .nil) ?_
   refine Ym ?_
   refine Yf Gv ?_
   refine Yl BA ?_
   refine Ym ?_
   refine Yo rfl (Aj (ad' := ad5.add i) rfl rfl rfl TT AQ (by omega) (by omega) (by rw [TC])) ?_
   refine Am rfl rfl rfl rfl (Ai rfl rfl AJ (BU (i := 2) rfl hx (by omega))) ?_
   refine Yf Gv ?_
   refine Yl BA ?_
   refine Ym ?_
   refine Yo rfl (Aj (ad' := ad5.add j) rfl rfl rfl TT AQ (by omega) (by omega) (by rw [TC])) ?_
   refine Am rfl rfl rfl rfl (Ai rfl rfl AJ (BU (i := 2) rfl hy (by omega))) ?_
   refine Flow.rel0 rfl rfl rfl rfl (Ar en70 rfl rfl rfl (fun w hw => F0 (D := fun r => ∃ A l c d, r = .tuple #[.slice A l c, .bool d] ∧ (d = true ↔ (endsU es es.length).count (srt x y) = 1)) (Gg (hcc _ _ _ _ 3 hw rfl) hE hne (by omega)))) ?_
   rintro _ ⟨Al, ll, cl, d, rfl, hd⟩
   refine Ym ?_
   refine Yo rfl (DJ rfl rfl rfl) ?_
   refine Yo rfl (DJ rfl rfl rfl) ?_
   refine Yo rfl (AR rfl rfl) ?_
   refine Yo rfl (AR rfl rfl) ?_
   refine Flow.end rfl ?_
   simp only [zq, zr]
   refine Fin.then <| DC.seq <| Zs ?_
   refine Zm ?_
   refine Zo (Bd rfl rfl) ?_
   refine Zx ?_
   refine Zd (fun c26 => ?_) fun c26 => ?_
   ·refine Zs ?_
    refine Zo (AA (cs := #[_, _, _]) rfl rfl Ii rfl rfl) ?_
    refine Zy (At (cs' := #[_, _, _]) rfl rfl rfl Cm rfl (TB rfl) rfl) ?_
    iterate 2 refine Za ?_
    refine Zx <| DC.ret <| Aa <| Ae <| Aa <| Aa <| Ae <| Ae <| Aa <| Aa <| Ae <| Aa ?_
    have hno : ¬ KuraOk n es := fun h => by
     have := hd.2 (hiff.1 h i j x y hwant hx hy)
     rw [this] at c26; simp at c26
    refine Fin.weak (E' := [(2, .pointer (some ⟨g2, 0, none⟩)), (3, .bool false), (4, .int .i64 0)]) (L' := [blk g2 77 #[.int .i64 0, .slice none 0 0, .slice none 0 0]]) ⟨rfl, rfl, rfl, trivial⟩ (.cons 4 rfl .nil) ?_
    refine BP (cs := #[_, _, _]) (.inl rfl) rfl rfl rfl rfl EP Cm ?_
    exact ⟨[], fun w hw => hw.sub (TH _), rfl, _, _, _, _, _, _, _, false, rfl, by simp [hno]⟩
   have hone : (endsU es es.length).count (srt x y) = 1 := hd.1 (by simpa using c26)
   refine DC.skip <| Fin.then <| DC.region ?_
   refine Zf EM ?_
   refine Zl Ek ?_
   refine Zm ?_
   refine Zw (AP (cs := #[_]) rfl rfl TW BE Da rfl (by decide) (by decide) rfl rfl) fun g132 => ?_
   refine Seq.gen rfl rfl (Mx (AK (F := blk g132 44 #[.slice Al ll cl] :: [blk g13 77 #[.int .i64 kd5, .slice (some ad5) B.length c5, .slice Aq (cumK kd5 i + innK kd5 i j) cq], slc (.slice (some ad5) B.length c5) 3 1 (ints B), cc, blk g2 77 #[.int .i64 0, .slice none 0 0, .slice none 0 0]]) (vs := ws) (k := 1) (news := [.slice Al ll cl]) rfl rfl rfl TW BE IH Da rfl (by decide) (by decide)
    (fun w hw => hw.pick (.cons 1 rfl (.cons 0 rfl (.cons 0 rfl (.cons 0 rfl (.cons 0 rfl (.cons 0 rfl .nil))))))) (.inl ⟨_, _, rfl, Ak rfl⟩) rfl (by intro u hu; simp at hu; subst hu; rfl) (by omega))) ?_
   rintro _ _ ⟨⟨A13, l13, c13, rfl, hl13⟩, rfl⟩
   refine Zf EM ?_
   refine Zy (AE (cs' := #[_, _, _]) rfl rfl rfl Qv rfl (TB rfl) rfl) ?_
   refine Seq.nil <| Fin.inBlock <| Fin.then <| DC.region ?_
   refine Zm ?_
   refine Zp ?_
   refine Za ?_
   refine Seq.nil ?_
   rw [List.length_append, hws] at hl13
   refine Ag ⟨j + 1, A13, l13, c13, ws ++ [.slice Al ll cl]⟩ (by dsimp only; omega) ⟨by dsimp only; omega, by dsimp only; omega, by rw [List.length_append, hws]; simp at hl13 ⊢; omega, by dsimp only; rw [Py hwant]; simp at hl13; omega, ?_⟩ ⟨rfl, rfl, rfl, rfl, rfl, trivial⟩ (.cons 0 rfl (.cons 1 rfl (.cons 1 rfl (.cons 1 rfl (.cons 1 rfl .nil)))))
   intro j' y' h hw hy'
   dsimp only at h
   rcases Nat.lt_or_ge j' j with h1 | h1
   ·exact hrow j' y' h1 hw hy'
   obtain rfl : j' = j := by omega
   rw [hy] at hy'
   cases hy'
   exact hone
  refine DC.exit <| Ad <| Ad <| Ah <| Fin.inBlock <| Fin.then <| DC.region ?_
  refine Zm ?_
  refine Zp ?_
  refine Za ?_
  refine Seq.nil ?_
  have hjB : j = B.length := by simp at c22; omega
  subst hjB
  refine Ag ⟨i + 1, Aq, cumK kd5 i + innK kd5 i B.length, cq, ws⟩ (by dsimp only; omega) ⟨by dsimp only; omega, hws, by dsimp only; rw [Ow hlen], ?_⟩ ⟨rfl, rfl, rfl, rfl, trivial⟩ (.cons 0 rfl (.cons 0 rfl (.cons 0 rfl (.cons 0 rfl (.cons 0 rfl .nil)))))
  intro i' j' x' y' h hw hx' hy'
  dsimp only at h
  rcases Nat.lt_or_ge i' i with h1 | h1
  ·exact hall i' j' x' y' h1 hw hx' hy'
  obtain rfl : i' = i := by omega
  rw [hx] at hx'
  cases hx'
  exact hrow j' y' (TA.1 hy').1 hw hy'
 have hiB : i = B.length := by simp at c19; omega
 have hyes : KuraOk n es := hiff.2 fun i' j' x' y' hw hx' hy' => hall i' j' x' y' (by rw [hiB]; exact (TA.1 hx').1) hw hx' hy'
 have hcl : cumK kd5 i = ls.length := by rw [hiB]; exact PZ hlen
 refine DC.exit <| Ad <| Ad <| Ah <| Fin.then <| DC.seq ?_
 refine AF (cl := [.v, .q, .q, .q, .q, .q, .q, .g, .q, .q]) (A := [0, 0, 2, 6, 0, 16, 62, 1, 255, 511]) (order := [0, 1, 2, 3, 4, 5, 6, 7, 8, 9]) ([blk g13 77 #[.int .i64 kd5, .slice (some ad5) B.length c5, .slice Ap (cumK kd5 i) cp]]) mixed (by kernel_rfl) (fun w hw => hw.pick (.cons 1 rfl .nil)) ?_
 refine Am rfl rfl rfl rfl (Ay (vs := [_, _, _]) rfl rfl EP Cm rfl (Ak rfl)) ?_
 refine Yf EM ?_
 refine Flow.old rfl rfl rfl (Ai rfl rfl Ek (BJ rfl)) ?_
 refine Yo rfl (CC rfl rfl TW) ?_
 refine Ym ?_
 refine Yo rfl (CC rfl rfl TW) ?_
 refine Yo rfl (AN rfl rfl rfl) ?_
 refine AS rfl rfl rfl rfl (At (cs' := #[_, _, _]) rfl rfl rfl Cm rfl (TB rfl) rfl) (fun w hw => hw.pick (.cons 1 rfl .nil)) ?_
 refine Yo rfl (AR rfl rfl) ?_
 refine Yo rfl (AR rfl rfl) ?_
 refine Flow.end rfl ?_
 simp only [zq, zr]
 refine Fin.then <| DC.ret ?_
 refine Fin.weak (E' := [(2, .pointer (some ⟨g2, 0, none⟩)), (3, _), (4, .int .i64 0)]) (L' := [blk g2 77 #[_, _, _]]) ⟨rfl, rfl, rfl, trivial⟩ (.cons 4 rfl .nil) ?_
 refine BP (cs := #[_, _, _]) (.inl rfl) rfl rfl rfl rfl EP Cm ?_
 exact ⟨[], fun w hw => hw.sub (TH _), rfl, _, _, _, _, _, _, _, _, rfl, by simp [hyes, hcl]⟩
end Go.Fl
