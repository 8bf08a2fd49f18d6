/- Part 4 of the proof: the library of the walk and the walks, in build order; no condition. -/
import Derived.Test.YthjmapekjggdjaaGreatDoorZM3
set_option linter.unusedVariables false
set_option linter.unusedSimpArgs false
set_option maxRecDepth 100000
namespace Go.Fl
open Go Go.Proofs
/-- How the ends of a chain as it is written come of its ends. -/
def WrtR (a b : Int) (c : List Int) : Prop := ∃ p q, c[0]? = some p ∧ c[c.length - 1]? = some q ∧ (a = b → p = q) ∧ (a ≠ b → p = min a b ∧ q = max a b)
structure WrI where
  vl : Value
  ad : Addr
  l : List Int
  c : Nat
  L : List Chunk
  a : Int
  b : Int
structure WrE (es : List Pr) (w : World) (n : Nat) (j : WrI) : Prop where
  val : j.vl = .slice (some j.ad) j.l.length j.c
  rds : ∀ w', Own w [] w' j.L → Rd w' (some j.ad) (ints j.l) ∧ SlB w' j.vl j.l
  len : j.l.length = n
  all : AllH es j.l
  hd : ∃ x, j.l[0]? = some x ∧ fromV es x = j.a
  la : ∃ y, j.l[j.l.length - 1]? = some y ∧ toV es y = j.b
theorem has_rds {w : World} {L L' : List Chunk} {vl : Value} {ad : Addr} {l : List Int} {j : Nat} {x : Int} (h : ∀ w', Own w [] w' L' → Rd w' (some ad) (ints l) ∧ SlB w' vl l) (hp : ∀ w', Own w [] w' L → Own w [] w' L') (hj : l[j]? = some x) :
    Has w [] L (ad.add j) (.int .i64 x) := by
  intro w' hw
  obtain ⟨ad', e, hc⟩ := (h w' (hp w' hw)).1.int hj
  cases e; exact hc
theorem rds_own {w : World} {ad : Addr} {l : List Int} {n c t : Nat} (hf : l.length ≤ 17592186044416) :
    ∀ w', Own w [] w' [slc (.slice (some ad) n c) t 1 (ints l)] → Rd w' (some ad) (ints l) ∧ SlB w' (.slice (some ad) n c) l := by
  intro w' hw
  refine ⟨?_, slb_own hw⟩
  obtain ⟨A, cap, e, hr, _⟩ := slv_own hw 0 rfl hf
  cases e; exact hr
theorem about_ends {es : List Pr} {l : List Int} {x y : Int} (ha : AllH es l) (hx : l[0]? = some x) (hy : l[l.length - 1]? = some y) :
    (∃ z, (aboutL l)[0]? = some z ∧ fromV es z = toV es y) ∧ ∃ z, (aboutL l)[(aboutL l).length - 1]? = some z ∧ toV es z = fromV es x := by
  have hp := (List.getElem?_eq_some_iff.1 hx).1
  refine ⟨⟨tw y, ?_, from_tw (ha _ (List.mem_of_getElem? hy))⟩, ⟨tw x, ?_, to_tw (ha _ (List.mem_of_getElem? hx))⟩⟩
  · rw [about_get hp, Nat.sub_zero, hy]; rfl
  · rw [about_len, about_get (by omega), show l.length - 1 - (l.length - 1) = 0 by omega, hx]; rfl
structure WrJ where
  i : Nat
  m : Nat
structure WrK where
  i : Nat
  v : Value
theorem written_calls {N : Int} {es : List Pr} {M : AdjM} {p : Option Addr} {w : World} {v : Value} {l : List Int} (hA : AV w N es M p) (hv : SlB w v l) (hne : l ≠ []) (hall : AllH es l) (hlk : Link es l) (hl : l.length ≤ 1000000000) :
    Calls Tryz.prog 161 #[.pointer p, v] w (Ret w [] fun r L => ∃ c, L = [slc r 3 1 (ints c)] ∧ c.length = l.length + 1 ∧
      ∀ x y, l[0]? = some x → l[l.length - 1]? = some y → WrtR (fromV es x) (toV es y) c) := by
  have hV := hA.vld
  have hfew := hV.few
  have hv' := hv
  obtain ⟨g, off, cap, rfl, hlc, hcm, hcell⟩ := hv.resolve_left (fun ⟨_, _, _, h⟩ => hne h)
  have hpos : 0 < l.length := List.length_pos_iff.2 hne
  obtain ⟨x0, hx0⟩ : ∃ x, l[0]? = some x := ⟨_, List.getElem?_eq_getElem hpos⟩
  obtain ⟨y0, hy0⟩ : ∃ y, l[l.length - 1]? = some y := ⟨_, List.getElem?_eq_getElem (by omega)⟩
  have hcL : ∀ {j : Nat} {x : Int}, l[j]? = some x → w.cell? ((⟨g, off, none⟩ : Addr).add j) = some (.int .i64 x) := fun hj => by rw [add_at]; exact hcell _ _ hj
  refine calls_of (args := [_, _]) (L := []) Tryz.func161 rfl Tryz.ntmps161 rfl (Own.start _ _) ?_
  refine Zs ?_
  refine Za ?_
  refine Zx ?_
  refine DC.seq ?_
  refine DC.flow (cl := [.q, .q, .q, .v, .r, .q, .q, .q, .q, .q, .q, .v, .r, .q, .q]) (A := [0, 0, 2, 6, 15, 0, 0, 0, 128, 384, 960, 1984, 4095, 8191, 16383]) (order := [0, 1, 2, 3, 4, 5, 6, 7, 8, 9, 10, 11, 12, 13, 14]) [] mixed (by kernel_rfl) (fun w hw => hw.pick .nil) ?_
  refine Ym ?_
  refine Ym ?_
  refine Flow.pur rfl rfl rfl (p_index1 (ad' := (⟨g, off, none⟩ : Addr).add 0) rfl rfl rfl Tryz.underlying44 sz3 (by omega) (by omega) rfl) ?_
  refine Flow.valS rfl rfl rfl rfl (v_load rfl rfl ag3 (has_old' (hcL hx0))) ?_
  refine Flow.rel0 rfl rfl rfl rfl (r_call en182 rfl rfl rfl (fun w' hw => From_calls (hA.keep hw) _)) ?_
  rintro _ rfl
  refine Ym ?_
  refine Ym ?_
  refine Ym ?_
  refine Flow.pur rfl rfl rfl (p_len rfl rfl Tryz.underlying44) ?_
  refine Flow.pur rfl rfl rfl (p_sub rfl rfl rfl (by omega)) ?_
  refine Flow.pur rfl rfl rfl (p_index1 (ad' := (⟨g, off, none⟩ : Addr).add (l.length - 1)) rfl rfl rfl Tryz.underlying44 sz3 (by omega) (by omega) (by rw [show ((l.length : Int) - 1).toNat = l.length - 1 by omega])) ?_
  refine Flow.valS rfl rfl rfl rfl (v_load rfl rfl ag3 (has_old' (hcL hy0))) ?_
  refine Flow.rel0 rfl rfl rfl rfl (r_call en181 rfl rfl rfl (fun w' hw => To_calls (hA.keep hw) _)) ?_
  rintro _ rfl
  refine Flow.pur rfl rfl rfl (p_assign rfl rfl) ?_
  refine Flow.pur rfl rfl rfl (p_assign rfl rfl) ?_
  refine Flow.end rfl ?_
  simp only [List.map_cons, List.map_nil, List.nil_append, List.cons_append, List.append_nil]
  refine Fin.then ?_
  refine DC.cut (ι := WrI) (fun j => WrE es w l.length j ∧ (fromV es x0 = toV es y0 → j.a = j.b) ∧ (fromV es x0 ≠ toV es y0 → j.a = fromV es x0 ∧ j.b = toV es y0))
    (fun j => [(0, .pointer p), (1, j.vl), (5, .int .i64 j.a), (6, .int .i64 j.b)]) (fun j => j.L) ?first12 ?rest12
  case first12 =>
    refine Zs ?_
    refine Zm ?_
    refine Zm ?_
    refine Seq.pur rfl rfl (p_eql rfl rfl rfl) ?_
    refine Zm ?_
    refine Seq.split 29 rfl (fun k2_3 => ?_) (fun k2_3 => ?_)
    · refine Zm ?_
      refine Zm ?_
      refine Seq.rel0 rfl rfl (r_call en159 rfl rfl rfl (fun w' hw => Degree_calls (hA.keep hw) _)) ?_
      rintro _ rfl
      refine Seq.pur rfl rfl (p_eql rfl rfl rfl) ?_
      refine Zt ?_
      refine Zx ?_
      refine DC.cond rfl (fun c2 => ?_) (fun c2 => ?_)
      · refine Zs ?_
        refine Za ?_
        refine Zx ?_
        refine DC.seq ?_
        refine Zs ?_
        refine Zm ?_
        refine Zn Tryz.underlying44 ?_
        refine Zm ?_
        refine Zx ?_
        refine DC.block ?_
        refine DC.loop (ι := WrJ) (fun j => j.i ≤ l.length ∧ j.m < l.length) (fun j => [(0, .pointer p), (1, .slice (some ⟨g, off, none⟩) l.length cap), (7, .int .i64 j.m), (35, .slice (some ⟨g, off, none⟩) l.length cap), (36, .int .i64 l.length), (37, .int .i64 j.i)])
          (fun _ => []) (fun j => l.length - j.i) ⟨0, 0⟩ ⟨Nat.zero_le _, hpos⟩ ⟨rfl, rfl, rfl, rfl, rfl, rfl, trivial⟩ .nil ?_
        rintro ⟨i, m⟩ ⟨hi, hm⟩
        dsimp only at hi hm ⊢
        refine Zs ?_
        refine Zc ?_
        refine Zx ?_
        refine DC.seq ?_
        refine DC.cond rfl (fun c5 => ?_) (fun c5 => ?_)
        · have hlt : i < l.length := by simpa using c5
          obtain ⟨x, hx⟩ : ∃ x, l[i]? = some x := ⟨_, List.getElem?_eq_getElem hlt⟩
          obtain ⟨y, hy⟩ : ∃ y, l[m]? = some y := ⟨_, List.getElem?_eq_getElem hm⟩
          refine DC.skip ?_
          refine Fin.then ?_
          refine DC.seq ?_
          refine DC.block ?_
          refine Zs ?_
          refine Zm ?_
          refine Seq.pur rfl rfl (p_index1 (ad' := (⟨g, off, none⟩ : Addr).add i) rfl rfl rfl Tryz.underlying44 sz3 (by omega) (by omega) rfl) ?_
          refine Seq.val rfl rfl (v_load rfl rfl ag3 (has_old' (hcL hx))) ?_
          refine Za ?_
          refine Za ?_
          refine Zx ?_
          refine DC.seq ?_
          refine DC.flow (cl := [.q, .q, .r, .q, .q, .q, .q, .v, .r, .q]) (A := [0, 0, 3, 0, 0, 0, 48, 112, 255, 511]) (order := [0, 1, 2, 3, 4, 5, 6, 7, 8, 9]) [] mixed (by kernel_rfl) (fun w hw => hw.pick .nil) ?_
          refine Ym ?_
          refine Ym ?_
          refine Flow.rel0 rfl rfl rfl rfl (r_call en182 rfl rfl rfl (fun w' hw => From_calls (hA.keep hw) _)) ?_
          rintro _ rfl
          refine Ym ?_
          refine Ym ?_
          refine Ym ?_
          refine Flow.pur rfl rfl rfl (p_index1 (ad' := (⟨g, off, none⟩ : Addr).add m) rfl rfl rfl Tryz.underlying44 sz3 (by omega) (by omega) rfl) ?_
          refine Flow.valS rfl rfl rfl rfl (v_load rfl rfl ag3 (has_old' (hcL hy))) ?_
          refine Flow.rel0 rfl rfl rfl rfl (r_call en182 rfl rfl rfl (fun w' hw => From_calls (hA.keep hw) _)) ?_
          rintro _ rfl
          refine Flow.pur rfl rfl rfl (p_lss rfl rfl rfl) ?_
          refine Flow.end rfl ?_
          simp only [List.map_cons, List.map_nil, List.nil_append, List.cons_append, List.append_nil]
          refine Fin.then ?_
          refine DC.cond rfl (fun c7 => ?_) (fun c7 => ?_)
          · refine DC.region ?_
            refine Zm ?_
            refine Za ?_
            refine Seq.nil ?_
            refine Fin.inBlock ?_
            refine Fin.then ?_
            refine DC.region ?_
            refine Zp ?_
            refine Zm ?_
            refine Seq.nil ?_
            refine Fin.again ⟨i + 1, i⟩ (by dsimp only; omega) ⟨by dsimp only; omega, by dsimp only; omega⟩ ⟨rfl, rfl, rfl, rfl, rfl, rfl, trivial⟩ .nil
          · refine DC.skip ?_
            refine Fin.inBlock ?_
            refine Fin.then ?_
            refine DC.region ?_
            refine Zp ?_
            refine Zm ?_
            refine Seq.nil ?_
            refine Fin.again ⟨i + 1, m⟩ (by dsimp only; omega) ⟨by dsimp only; omega, by dsimp only; omega⟩ ⟨rfl, rfl, rfl, rfl, rfl, rfl, trivial⟩ .nil
        · refine DC.exit ?_
          refine Fin.exit_then <| Fin.exit_then <| Fin.exit_here <| ?_
          refine Fin.then ?_
          refine DC.seq ?_
          refine DC.flow (cl := [.q, .q, .q, .r, .q, .q, .q, .g, .q]) (A := [0, 0, 3, 7, 0, 0, 48, 127, 255]) (order := [0, 1, 2, 3, 4, 5, 6, 7, 8]) [] mixed (by kernel_rfl) (fun w hw => hw.pick .nil) ?_
          refine Ym ?_
          refine Ym ?_
          refine Flow.pur rfl rfl rfl (p_slice_from (lo := m) rfl rfl rfl Tryz.underlying44 sz3 (by omega)) ?_
          refine Flow.relS rfl rfl rfl rfl (r_call en52 rfl rfl rfl (fun w' hw => clone_calls ((hv'.keep0 hw).drop (by omega)) (by rw [List.length_drop]; omega))) ?_
          rintro vc _ rfl
          refine Ym ?_
          refine Ym ?_
          refine Flow.pur rfl rfl rfl (p_slice_to (hi := m) rfl rfl rfl Tryz.underlying44 sz3 (by omega)) ?_
          refine Flow.gen' (V := _) rfl rfl rfl rfl rfl (g_append rfl rfl rfl Tryz.underlying44 sz3 by3 ze3 rfl (by decide) (by decide) (fun w hw => hw.pick (.cons 0 rfl .nil)) (src_rd (vs := ints (l.take m)) (k := m) (m := 1) (A := some ⟨g, off, none⟩) (fun j u hj => ⟨_, rfl, by
            unfold ints at hj
            rw [List.getElem?_map, Option.map_eq_some_iff] at hj
            obtain ⟨x, hx, rfl⟩ := hj
            rw [List.getElem?_take] at hx
            split at hx
            · exact hcL hx
            · cases hx⟩) (by simp; omega) (by simp) (fun h => by cases h)) (by simp; omega) (ints_one (l.take m) []) (by simp; omega)) (fun v L' hC w hw => hw.pick (.nil)) ?_
          rintro v61 _ rfl
          refine Flow.pur rfl rfl rfl (p_assign rfl rfl) ?_
          refine Flow.end rfl ?_
          simp only [List.map_cons, List.map_nil, List.nil_append, List.cons_append, List.append_nil]
          refine Fin.then ?_
          refine DC.seq ?_
          have hie : i = l.length := by simp at c5; omega
          rw [← ints_append]
          have hl1 : (l.drop m ++ l.take m).length = l.length := by rw [List.length_append, List.length_drop, List.length_take]; omega
          refine DC.slcs (i := 0) (xs := l.drop m ++ l.take m) rfl (by omega) ?_
          rintro A1 c1 rfl hA1
          obtain ⟨ad1, rfl⟩ := hA1 (fun e => by rw [e] at hl1; simp at hl1; omega)
          obtain ⟨z, hz⟩ : ∃ z, l[m]? = some z := ⟨_, List.getElem?_eq_getElem hm⟩
          have hz0 : (l.drop m ++ l.take m)[0]? = some z := by rw [List.getElem?_append_left (by rw [List.length_drop]; omega), List.getElem?_drop]; exact hz
          refine DC.region ?_
          refine Zm ?_
          refine Zm ?_
          refine Seq.pur rfl rfl (p_index1 (ad' := ad1.add 0) rfl rfl rfl Tryz.underlying44 sz3 (by omega) (by omega) rfl) ?_
          refine Seq.val rfl rfl (v_load rfl rfl ag3 (has_slcI (i := 0) rfl hz0 (by omega))) ?_
          refine Seq.rel0 rfl rfl (r_call en182 rfl rfl rfl (fun w' hw => From_calls (hA.keep hw) _)) ?_
          rintro _ rfl
          refine Za ?_
          refine Zx ?_
          refine DC.region ?_
          refine Zm ?_
          refine Za ?_
          refine Seq.nil ?_
          have heq : fromV es x0 = toV es y0 := by first | simpa using k2_3 | (simp at k2_3; exact k2_3)
          refine Fin.meet ⟨.slice (some ad1) (l.drop m ++ l.take m).length c1, ad1, l.drop m ++ l.take m, c1, [slc (.slice (some ad1) (l.drop m ++ l.take m).length c1) 3 1 (ints (l.drop m ++ l.take m))], fromV es z, fromV es z⟩
            ⟨⟨rfl, rds_own (by omega), hl1, fun x hx => ?_, ⟨z, hz0, rfl⟩, ?_⟩, fun _ => rfl, fun h => absurd heq h⟩ ⟨rfl, rfl, rfl, rfl, trivial⟩ (.cons 0 rfl .nil)
          · rcases List.mem_append.1 hx with hx | hx
            · exact hall x (List.mem_of_mem_drop hx)
            · exact hall x (List.mem_of_mem_take hx)
          · dsimp only
            rw [hl1]
            by_cases h0 : m = 0
            · subst h0
              have hzx : z = x0 := by rw [hz] at hx0; exact Option.some.inj hx0
              exact ⟨y0, by simpa using hy0, by rw [hzx]; exact heq.symm⟩
            · obtain ⟨y, hy⟩ : ∃ y, l[m - 1]? = some y := ⟨_, List.getElem?_eq_getElem (by omega)⟩
              refine ⟨y, ?_, (hlk (m - 1) y z hy (by rw [← hz]; congr 1; omega)).symm⟩
              rw [List.getElem?_append_right (by rw [List.length_drop]; omega), List.length_drop, List.getElem?_take, if_pos (by omega), ← hy]
              congr 1; omega
      · refine DC.skip ?_
        refine Fin.meet ⟨.slice (some ⟨g, off, none⟩) l.length cap, ⟨g, off, none⟩, l, cap, [], fromV es x0, toV es y0⟩
          ⟨⟨rfl, fun w' hw => ⟨?_, hv'.keep0 hw⟩, rfl, hall, ⟨x0, hx0, rfl⟩, ⟨y0, hy0, rfl⟩⟩, fun h => h, fun _ => ⟨rfl, rfl⟩⟩ ⟨rfl, rfl, rfl, rfl, trivial⟩ .nil
        obtain ⟨A, c, e, hr⟩ := (hv'.keep0 hw).slv (by omega)
        cases e; exact hr
    · refine Zk ?_
      refine Zk ?_
      refine Zk ?_
      refine Zk ?_
      refine Zg ?_
      refine Zx ?_
      refine DC.cond_f rfl ?_
      refine DC.skip ?_
      refine Fin.meet ⟨.slice (some ⟨g, off, none⟩) l.length cap, ⟨g, off, none⟩, l, cap, [], fromV es x0, toV es y0⟩
        ⟨⟨rfl, fun w' hw => ⟨?_, hv'.keep0 hw⟩, rfl, hall, ⟨x0, hx0, rfl⟩, ⟨y0, hy0, rfl⟩⟩, fun h => h, fun _ => ⟨rfl, rfl⟩⟩ ⟨rfl, rfl, rfl, rfl, trivial⟩ .nil
      obtain ⟨A, c, e, hr⟩ := (hv'.keep0 hw).slv (by omega)
      cases e; exact hr
  case rest12 =>
    rintro ⟨vl, ad, l1, c1, L1, a1, b1⟩ ⟨⟨hval, hrds, hlen, hall1, ⟨x1, hx1, hxa⟩, ⟨y1, hy1, hyb⟩⟩, hends⟩
    dsimp only at hval hrds hlen hall1 hx1 hxa hy1 hyb hends ⊢
    subst hval hxa hyb
    refine DC.cut (ι := WrI) (fun j => WrE es w l.length j ∧ (fromV es x0 = toV es y0 → j.a = j.b) ∧ (fromV es x0 ≠ toV es y0 → j.a = min (fromV es x0) (toV es y0) ∧ j.b = max (fromV es x0) (toV es y0)))
      (fun j => [(0, .pointer p), (1, j.vl)]) (fun j => j.L) ?first14 ?rest14
    case first14 =>
      refine DC.seq ?_
      refine DC.flow (cl := [.q, .q, .q, .q, .q, .q, .q, .q, .q, .q, .q, .v, .r, .q, .q, .q, .q, .q, .q, .v, .r, .q, .q, .q]) (A := [0, 0, 3, 7, 15, 15, 63, 127, 255, 255, 767, 1791, 4095, 255, 255, 255, 33023, 98559, 246015, 508159, 1048575, 2097151, 4194303, 8388607]) (order := [0, 1, 2, 3, 4, 5, 6, 7, 8, 9, 10, 11, 12, 13, 14, 15, 16, 17, 18, 19, 20, 21, 22, 23]) [] mixed (by kernel_rfl) (fun w hw => hw.pick .nil) ?_
      refine Ym ?_
      refine Ym ?_
      refine Flow.pur rfl rfl rfl (p_gtr rfl rfl rfl) ?_
      refine Ym ?_
      refine Flow.split 71 rfl (fun k13_3 => ?_) (fun k13_3 => ?_)
      · refine Yk ?_
        refine Yk ?_
        refine Yk ?_
        refine Yk ?_
        refine Yk ?_
        refine Yk ?_
        refine Yk ?_
        refine Yk ?_
        refine Yk ?_
        refine Yk ?_
        refine Yk ?_
        refine Yk ?_
        refine Yk ?_
        refine Yk ?_
        refine Yk ?_
        refine Yk ?_
        refine Yk ?_
        refine Yk ?_
        refine Yk ?_
        refine Flow.pur rfl rfl rfl (p_pick_t rfl rfl rfl) ?_
        refine Flow.end rfl ?_
        simp only [List.map_cons, List.map_nil, List.nil_append, List.cons_append, List.append_nil]
        refine Fin.then ?_
        refine DC.cond_t rfl ?_
        refine DC.region ?_
        refine Zm ?_
        refine Seq.rel rfl rfl (r_call en183 rfl rfl rfl (fun w' hw => about_calls (hrds w' hw).2 (by omega) (fun x hx => by have := hall1 x hx; obtain ⟨h0, h1⟩ := this; omega))) ?_
        rintro v93 _ rfl
        refine Za ?_
        refine Seq.nil ?_
        refine Fin.slcs (i := 0) (xs := aboutL l1) rfl (by rw [about_len]; omega) ?_
        rintro A3 c3 rfl hA3
        obtain ⟨ad3, rfl⟩ := hA3 (fun e => by have := congrArg List.length e; rw [about_len] at this; simp at this; rw [this] at hx1; simp at hx1)
        obtain ⟨e1, e2⟩ := about_ends hall1 hx1 hy1
        refine Fin.meet ⟨.slice (some ad3) (aboutL l1).length c3, ad3, aboutL l1, c3, [slc (.slice (some ad3) (aboutL l1).length c3) 3 1 (ints (aboutL l1))], toV es y1, fromV es x1⟩
          ⟨⟨rfl, rds_own (by rw [about_len]; omega), by rw [about_len]; exact hlen, about_all hall1, e1, e2⟩, fun h => (hends.1 h).symm, fun h => ?_⟩ ⟨rfl, rfl, trivial⟩ (.cons 0 rfl .nil)
        obtain ⟨q1, q2⟩ := hends.2 h
        dsimp only
        simp at k13_3
        omega
      · refine Ym ?_
        refine Ym ?_
        refine Flow.pur rfl rfl rfl (p_eql rfl rfl rfl) ?_
        refine Ym ?_
        refine Flow.split 75 rfl (fun k13_7 => ?_) (fun k13_7 => ?_)
        · refine Ym ?_
          refine Ym ?_
          refine Flow.pur rfl rfl rfl (p_index1 (ad' := ad.add 0) rfl rfl rfl Tryz.underlying44 sz3 (by omega) (by omega) rfl) ?_
          refine Flow.valS rfl rfl rfl rfl (v_load rfl rfl ag3 (has_rds hrds (fun _ h => h) hx1)) ?_
          refine Flow.rel0 rfl rfl rfl rfl (r_call en181 rfl rfl rfl (fun w' hw => To_calls (hA.keep hw) _)) ?_
          rintro _ rfl
          refine Ym ?_
          refine Ym ?_
          refine Ym ?_
          refine Flow.pur rfl rfl rfl (p_len rfl rfl Tryz.underlying44) ?_
          refine Flow.pur rfl rfl rfl (p_sub rfl rfl rfl (by omega)) ?_
          refine Flow.pur rfl rfl rfl (p_index1 (ad' := ad.add (l1.length - 1)) rfl rfl rfl Tryz.underlying44 sz3 (by omega) (by omega) (by rw [show ((l1.length : Int) - 1).toNat = l1.length - 1 by omega])) ?_
          refine Flow.valS rfl rfl rfl rfl (v_load rfl rfl ag3 (has_rds hrds (fun _ h => h) hy1)) ?_
          refine Flow.rel0 rfl rfl rfl rfl (r_call en182 rfl rfl rfl (fun w' hw => From_calls (hA.keep hw) _)) ?_
          rintro _ rfl
          refine Flow.pur rfl rfl rfl (p_gtr rfl rfl rfl) ?_
          refine Flow.pur rfl rfl rfl (p_pick_t rfl rfl rfl) ?_
          refine Flow.pur rfl rfl rfl (p_pick_f rfl rfl rfl) ?_
          refine Flow.end rfl ?_
          simp only [List.map_cons, List.map_nil, List.nil_append, List.cons_append, List.append_nil]
          refine Fin.then ?_
          refine DC.cond rfl (fun c13 => ?_) (fun c13 => ?_)
          · refine DC.region ?_
            refine Zm ?_
            refine Seq.rel rfl rfl (r_call en183 rfl rfl rfl (fun w' hw => about_calls (hrds w' hw).2 (by omega) (fun x hx => by have := hall1 x hx; obtain ⟨h0, h1⟩ := this; omega))) ?_
            rintro v93 _ rfl
            refine Za ?_
            refine Seq.nil ?_
            refine Fin.slcs (i := 0) (xs := aboutL l1) rfl (by rw [about_len]; omega) ?_
            rintro A3 c3 rfl hA3
            obtain ⟨ad3, rfl⟩ := hA3 (fun e => by have := congrArg List.length e; rw [about_len] at this; simp at this; rw [this] at hx1; simp at hx1)
            obtain ⟨e1, e2⟩ := about_ends hall1 hx1 hy1
            refine Fin.meet ⟨.slice (some ad3) (aboutL l1).length c3, ad3, aboutL l1, c3, [slc (.slice (some ad3) (aboutL l1).length c3) 3 1 (ints (aboutL l1))], toV es y1, fromV es x1⟩
              ⟨⟨rfl, rds_own (by rw [about_len]; omega), by rw [about_len]; exact hlen, about_all hall1, e1, e2⟩, fun h => (hends.1 h).symm, fun h => ?_⟩ ⟨rfl, rfl, trivial⟩ (.cons 0 rfl .nil)
            obtain ⟨q1, q2⟩ := hends.2 h
            dsimp only
            simp at k13_3
            simp at k13_7; omega
          · refine DC.skip ?_
            refine Fin.meet ⟨.slice (some ad) l1.length c1, ad, l1, c1, L1, fromV es x1, toV es y1⟩
              ⟨⟨rfl, hrds, hlen, hall1, ⟨x1, hx1, rfl⟩, ⟨y1, hy1, rfl⟩⟩, hends.1, fun h => ?_⟩ ⟨rfl, rfl, trivial⟩ (Pick.all _)
            obtain ⟨q1, q2⟩ := hends.2 h
            dsimp only
            simp at k13_3
            omega
        · refine Yk ?_
          refine Yk ?_
          refine Yk ?_
          refine Yk ?_
          refine Yk ?_
          refine Yk ?_
          refine Yk ?_
          refine Yk ?_
          refine Yk ?_
          refine Yk ?_
          refine Yk ?_
          refine Yk ?_
          refine Yk ?_
          refine Yk ?_
          refine Flow.pur rfl rfl rfl (p_pick_f rfl rfl rfl) ?_
          refine Flow.pur rfl rfl rfl (p_pick_f rfl rfl rfl) ?_
          refine Flow.end rfl ?_
          simp only [List.map_cons, List.map_nil, List.nil_append, List.cons_append, List.append_nil]
          refine Fin.then ?_
          refine DC.cond_f rfl ?_
          refine DC.skip ?_
          refine Fin.meet ⟨.slice (some ad) l1.length c1, ad, l1, c1, L1, fromV es x1, toV es y1⟩
            ⟨⟨rfl, hrds, hlen, hall1, ⟨x1, hx1, rfl⟩, ⟨y1, hy1, rfl⟩⟩, hends.1, fun h => ?_⟩ ⟨rfl, rfl, trivial⟩ (Pick.all _)
          obtain ⟨q1, q2⟩ := hends.2 h
          dsimp only
          simp at k13_3
          omega
    case rest14 =>
      rintro ⟨vl, ad2, l2, c2, L2, a2, b2⟩ ⟨⟨hval, hrds2, hlen2, hall2, ⟨x2, hx2, hxa⟩, ⟨y2, hy2, hyb⟩⟩, hends2⟩
      dsimp only at hval hrds2 hlen2 hall2 hx2 hxa hy2 hyb hends2 ⊢
      subst hval hxa hyb
      refine Zs ?_
      refine Zm ?_
      refine Zm ?_
      refine Seq.pur rfl rfl (p_index1 (ad' := ad2.add 0) rfl rfl rfl Tryz.underlying44 sz3 (by omega) (by omega) rfl) ?_
      refine Seq.val rfl rfl (v_load rfl rfl ag3 (has_rds hrds2 (fun _ h => h) hx2)) ?_
      refine Seq.rel0 rfl rfl (r_call en182 rfl rfl rfl (fun w' hw => From_calls (hA.keep hw) _)) ?_
      rintro _ rfl
      refine Seq.new rfl rfl (n_slit (cs := #[_]) rfl rfl Tryz.underlying44 sz3 ze3 rfl (by decide) (by decide) rfl rfl) fun g99 => ?_
      refine Za ?_
      refine Zx ?_
      refine DC.seq ?_
      refine Zs ?_
      refine Zm ?_
      refine Zn Tryz.underlying44 ?_
      refine Zm ?_
      refine Zx ?_
      refine DC.block ?_
      refine DC.own (M := slc (.slice (some ⟨g99, 0, none⟩) 1 1) 3 1 (ints [fromV es x2]) :: L2) (fun w hw => own_slc (len := 1) (cap := 1) rfl (by decide) (by omega) (by omega) rfl rfl hw) ?_
      refine DC.loop (ι := WrK) (fun j => j.i ≤ l2.length)
        (fun j => [(0, .pointer p), (10, j.v), (100, .slice (some ad2) l2.length c2), (101, .int .i64 l2.length), (102, .int .i64 j.i)])
        (fun j => slc j.v 3 1 (ints (fromV es x2 :: (l2.take j.i).map (toV es))) :: L2) (fun j => l2.length - j.i) ⟨0, _⟩ (Nat.zero_le _) ⟨rfl, rfl, rfl, rfl, rfl, trivial⟩ (.cons 0 rfl (Pick.all _)) ?_
      rintro ⟨i, v⟩ hi
      dsimp only at hi ⊢
      refine Zs ?_
      refine Zc ?_
      refine Zx ?_
      refine DC.seq ?_
      refine DC.cond rfl (fun c17 => ?_) (fun c17 => ?_)
      · have hlt : i < l2.length := by simpa using c17
        obtain ⟨x, hx⟩ : ∃ x, l2[i]? = some x := ⟨_, List.getElem?_eq_getElem hlt⟩
        refine DC.skip ?_
        refine Fin.then ?_
        refine DC.seq ?_
        refine DC.block ?_
        refine Zs ?_
        refine Seq.pur rfl rfl (p_index1 (ad' := ad2.add i) rfl rfl rfl Tryz.underlying44 sz3 (by omega) (by omega) rfl) ?_
        refine Seq.val rfl rfl (v_load rfl rfl ag3 (has_rds hrds2 (fun _ h => h.sub (List.sublist_cons_self ..)) hx)) ?_
        refine Za ?_
        refine Zx ?_
        refine DC.region ?_
        refine Zm ?_
        refine Zm ?_
        refine Zm ?_
        refine Seq.rel0 rfl rfl (r_call en181 rfl rfl rfl (fun w' hw => To_calls (hA.keep hw) _)) ?_
        rintro _ rfl
        refine Seq.new rfl rfl (n_slit (cs := #[_]) rfl rfl Tryz.underlying44 sz3 ze3 rfl (by decide) (by decide) rfl rfl) fun g110 => ?_
        refine Seq.gen rfl rfl (g_append rfl rfl rfl Tryz.underlying44 sz3 by3 ze3 rfl (by decide) (by decide) (F := L2) (fun w hw => hw.sub (List.sublist_cons_self ..)) (.inl ⟨_, _, rfl, hass_blk rfl⟩) rfl (ints_one [_] []) (by simp; omega)) ?_
        rintro v111 _ rfl
        refine Za ?_
        refine Seq.nil ?_
        refine Fin.inBlock ?_
        refine Fin.then ?_
        refine DC.region ?_
        refine Zp ?_
        refine Zm ?_
        refine Seq.nil ?_
        refine Fin.again ⟨i + 1, v111⟩ (by dsimp only; omega) (by dsimp only; omega) ⟨rfl, rfl, rfl, rfl, rfl, trivial⟩ (.cons' 0 rfl (by dsimp only; rw [List.take_add_one, hx]; simp [ints]) (Pick.all _))
      · refine DC.exit ?_
        refine Fin.exit_then <| Fin.exit_then <| Fin.exit_here <| ?_
        refine Fin.then ?_
        refine Zs ?_
        refine Zm ?_
        refine Za ?_
        refine Zx ?_
        refine DC.ret ?_
        have hie : i = l2.length := by simp at c17; omega
        subst hie
        rw [List.take_length]
        refine Fin.weak (E' := [(4, _)]) (L' := [slc v 3 1 (ints (fromV es x2 :: l2.map (toV es)))]) ⟨rfl, trivial⟩ (.cons 0 rfl .nil) ?_
        refine Fin.end1 (.inl rfl) rfl rfl ?_
        refine ⟨_, rfl, by simp [hlen2], fun x y hx hy => ?_⟩
        rw [hx0] at hx
        rw [hy0] at hy
        cases hx; cases hy
        refine ⟨fromV es x2, toV es y2, rfl, ?_, hends2⟩
        have : (fromV es x2 :: l2.map (toV es)).length - 1 = (l2.length - 1) + 1 := by simp; omega
        rw [this, List.getElem?_cons_succ, List.getElem?_map, hy2]; rfl
end Go.Fl

set_option linter.unusedVariables false
set_option linter.unusedSimpArgs false
set_option maxRecDepth 100000
namespace Go.Fl
open Go Go.Proofs
theorem hass_slcI {w0 : World} {K : List Nat} {L : List Chunk} {i t l c : Nat} {ad : Addr} {xs : List Int} (hi : L[i]? = some (slc (.slice (some ad) l c) t 1 (ints xs))) (hf : xs.length ≤ 17592186044416) : Hass w0 K L ad (ints xs) := by
  intro w hw
  obtain ⟨A, cap, e, hr, _⟩ := slv_own hw i hi hf
  cases e
  intro j u hj
  obtain ⟨ad', e, hc⟩ := hr j u hj
  cases e; exact hc
theorem whole_calls {N : Int} {es : List Pr} {M : AdjM} {p : Option Addr} {w : World} {e : Nat} (hA : AV w N es M p) (he : e < es.length) :
    Calls Tryz.prog 160 #[.pointer p, .int .i64 e] w (Ret w [] fun r L => L = [slc r 3 1 (ints (chainOf es e))]) := by
  have hV := hA.vld
  have hfew := hV.few
  have hle := way_len_le hV (vh_even he)
  have hlo := way_len_le hV (vh_odd he)
  have hpe := List.length_pos_iff.2 (wayOf_ne (es := es) (2 * e))
  have hpo := List.length_pos_iff.2 (wayOf_ne (es := es) (2 * e + 1))
  have hlast : (wayOf es (2 * e))[(wayOf es (2 * e)).length - 1]? = some (wI es (2 * e) (wayT es (2 * e))) := by rw [← List.getLast?_eq_getElem?, wayOf_last]
  refine calls_of (args := [_, _]) (L := []) Tryz.func160 rfl Tryz.ntmps160 rfl (Own.start _ _) ?_
  refine Zs ?_
  refine Za ?_
  refine Zx ?_
  refine Zs ?_
  refine Zm ?_
  refine Zm ?_
  refine Seq.pur rfl rfl (p_mul rfl rfl rfl (by omega)) ?_
  refine Seq.rel rfl rfl (r_call en180 rfl rfl rfl (fun w' hw => way_calls (hA.keep hw) (vh_even he))) ?_
  rintro v5 _ rfl
  refine Za ?_
  refine Zx ?_
  refine DC.seq ?_
  refine DC.seq ?_
  refine DC.slcs (i := 0) (xs := wayOf es (2 * e)) rfl (by omega) ?_
  rintro A5 c5 rfl hA5
  obtain ⟨ad5, rfl⟩ := hA5 (wayOf_ne _)
  refine DC.region ?_
  refine Zm ?_
  refine Zm ?_
  refine Zm ?_
  refine Zn Tryz.underlying44 ?_
  refine Seq.pur rfl rfl (p_sub rfl rfl rfl (by omega)) ?_
  refine Seq.pur rfl rfl (p_index1 (ad' := ad5.add ((wayOf es (2 * e)).length - 1)) rfl rfl rfl Tryz.underlying44 sz3 (by omega) (by omega) (by rw [show (((wayOf es (2 * e)).length : Int) - 1).toNat = (wayOf es (2 * e)).length - 1 by omega])) ?_
  refine Seq.val rfl rfl (v_load rfl rfl ag3 (has_slcI (i := 0) rfl hlast (by omega))) ?_
  refine Seq.rel0 rfl rfl (r_call en181 rfl rfl rfl (fun w' hw => To_calls (hA.keep hw) _)) ?_
  rintro _ rfl
  refine Zm ?_
  refine Zm ?_
  refine Seq.pur rfl rfl (p_mul rfl rfl rfl (by omega)) ?_
  refine Seq.rel0 rfl rfl (r_call en182 rfl rfl rfl (fun w' hw => From_calls (hA.keep hw) _)) ?_
  rintro _ rfl
  refine Seq.pur rfl rfl (p_eql rfl rfl rfl) ?_
  refine Zm ?_
  refine Seq.split 24 rfl (fun k2_13 => ?_) (fun k2_13 => ?_)
  · refine Zm ?_
    refine Zm ?_
    refine Zm ?_
    refine Seq.pur rfl rfl (p_mul rfl rfl rfl (by omega)) ?_
    refine Seq.rel0 rfl rfl (r_call en182 rfl rfl rfl (fun w' hw => From_calls (hA.keep hw) _)) ?_
    rintro _ rfl
    refine Seq.rel0 rfl rfl (r_call en159 rfl rfl rfl (fun w' hw => Degree_calls (hA.keep hw) _)) ?_
    rintro _ rfl
    refine Seq.pur rfl rfl (p_eql rfl rfl rfl) ?_
    refine Zt ?_
    refine Zx ?_
    refine DC.cond rfl (fun c2 => ?_) (fun c2 => ?_)
    · refine Zs ?_
      refine Zm ?_
      refine Za ?_
      refine Zx ?_
      refine DC.ret ?_
      refine Fin.ret_then <| ?_
      refine Fin.weak (E' := [(4, _)]) (L' := [slc (.slice (some ad5) (wayOf es (2 * e)).length c5) 3 1 (ints (wayOf es (2 * e)))]) ⟨rfl, trivial⟩ (.cons 0 rfl .nil) ?_
      refine Fin.end1 (.inl rfl) rfl rfl ?_
      have hfree : FreeC es e := ⟨by simpa using k2_13, by simp at c2; unfold degV; omega⟩
      unfold chainOf
      rw [if_pos hfree]
    · have hfree : ¬ FreeC es e := fun ⟨h1, h2⟩ => by
        simp at c2
        unfold degV at h2
        exact c2 (by exact_mod_cast h2)
      refine DC.skip ?_
      refine Fin.then ?_
      refine DC.seq ?_
      have hfree : ¬ FreeC es e := fun ⟨h1, h2⟩ => by
        first
        | (simp at k2_13; exact k2_13 h1)
        | (simp at c2; unfold degV at h2; omega)
      refine DC.region ?_
      refine Zm ?_
      refine Zm ?_
      refine Seq.pur rfl rfl (p_mul rfl rfl rfl (by omega)) ?_
      refine Zp ?_
      refine Seq.rel rfl rfl (r_call en180 rfl rfl rfl (fun w' hw => way_calls (hA.keep hw) (vh_odd he))) ?_
      rintro v6 _ rfl
      refine Za ?_
      refine Zx ?_
      refine DC.seq ?_
      refine DC.slcs (i := 0) (xs := wayOf es (2 * e + 1)) rfl (by omega) ?_
      rintro A6 c6 rfl hA6
      obtain ⟨ad6, rfl⟩ := hA6 (wayOf_ne _)
      refine DC.region ?_
      refine Zm ?_
      refine Seq.pur rfl rfl (p_slice_from (lo := 1) rfl rfl rfl Tryz.underlying44 sz3 (by omega)) ?_
      refine Seq.rel rfl rfl (r_call en183 rfl rfl rfl (fun w' hw => about_calls ((slb_own hw).drop (k := 1) (by omega)) (by rw [List.length_drop]; omega) (fun x hx => by
        have := way_all hV (wayT_stops hV (vh_odd he)).way x (List.mem_of_mem_drop hx)
        obtain ⟨h0, h1⟩ := this; omega))) ?_
      rintro v41 _ rfl
      refine Zm ?_
      refine Seq.gen rfl rfl (g_append rfl rfl rfl Tryz.underlying44 sz3 by3 ze3 rfl (by decide) (by decide) (fun w hw => hw.pick (.cons 0 rfl .nil)) (.inl ⟨_, _, rfl, hass_slcI (i := 2) rfl (by omega)⟩) (by simp) (ints_one _ []) (by simp [about_len]; omega)) ?_
      rintro v43 _ rfl
      refine Za ?_
      refine Zx ?_
      refine DC.ret ?_
      refine Fin.weak (E' := [(4, _)]) (L' := [slc v43 3 1 (ints (aboutL ((wayOf es (2 * e + 1)).drop 1)) ++ ints (wayOf es (2 * e)))]) ⟨rfl, trivial⟩ (.cons 0 rfl .nil) ?_
      refine Fin.end1 (.inl rfl) rfl rfl ?_
      unfold chainOf
      rw [if_neg hfree, ints_append, List.drop_one]
  · refine Zk ?_
    refine Zk ?_
    refine Zk ?_
    refine Zk ?_
    refine Zk ?_
    refine Zk ?_
    refine Zk ?_
    refine Zg ?_
    refine Zx ?_
    refine DC.cond_f rfl ?_
    refine DC.skip ?_
    refine Fin.then ?_
    refine DC.seq ?_
    have hfree : ¬ FreeC es e := fun ⟨h1, h2⟩ => by
      first
      | (simp at k2_13; exact k2_13 h1)
      | (simp at c2; unfold degV at h2; omega)
    refine DC.region ?_
    refine Zm ?_
    refine Zm ?_
    refine Seq.pur rfl rfl (p_mul rfl rfl rfl (by omega)) ?_
    refine Zp ?_
    refine Seq.rel rfl rfl (r_call en180 rfl rfl rfl (fun w' hw => way_calls (hA.keep hw) (vh_odd he))) ?_
    rintro v6 _ rfl
    refine Za ?_
    refine Zx ?_
    refine DC.seq ?_
    refine DC.slcs (i := 0) (xs := wayOf es (2 * e + 1)) rfl (by omega) ?_
    rintro A6 c6 rfl hA6
    obtain ⟨ad6, rfl⟩ := hA6 (wayOf_ne _)
    refine DC.region ?_
    refine Zm ?_
    refine Seq.pur rfl rfl (p_slice_from (lo := 1) rfl rfl rfl Tryz.underlying44 sz3 (by omega)) ?_
    refine Seq.rel rfl rfl (r_call en183 rfl rfl rfl (fun w' hw => about_calls ((slb_own hw).drop (k := 1) (by omega)) (by rw [List.length_drop]; omega) (fun x hx => by
      have := way_all hV (wayT_stops hV (vh_odd he)).way x (List.mem_of_mem_drop hx)
      obtain ⟨h0, h1⟩ := this; omega))) ?_
    rintro v41 _ rfl
    refine Zm ?_
    refine Seq.gen rfl rfl (g_append rfl rfl rfl Tryz.underlying44 sz3 by3 ze3 rfl (by decide) (by decide) (fun w hw => hw.pick (.cons 0 rfl .nil)) (.inl ⟨_, _, rfl, hass_slcI (i := 2) rfl (by omega)⟩) (by simp) (ints_one _ []) (by simp [about_len]; omega)) ?_
    rintro v43 _ rfl
    refine Za ?_
    refine Zx ?_
    refine DC.ret ?_
    refine Fin.weak (E' := [(4, _)]) (L' := [slc v43 3 1 (ints (aboutL ((wayOf es (2 * e + 1)).drop 1)) ++ ints (wayOf es (2 * e)))]) ⟨rfl, trivial⟩ (.cons 0 rfl .nil) ?_
    refine Fin.end1 (.inl rfl) rfl rfl ?_
    unfold chainOf
    rw [if_neg hfree, ints_append, List.drop_one]
end Go.Fl

set_option linter.unusedVariables false
set_option linter.unusedSimpArgs false
set_option maxRecDepth 100000
namespace Go.Fl
open Go Go.Proofs
open Classical
theorem adj_own {w0 w : World} {K : List Nat} {L : List Chunk} {N : Int} {es : List Pr} {M : AdjM} (hw : Own w0 K w L) (hp : Pick L (adjL M)) (hP : AdjP N es M) : AV w N es M (some ⟨M.gp, 0, none⟩) := by
  have h := hw.pick hp
  unfold adjL at h
  have h0 := h.holds _ (List.mem_cons_self ..)
  have h1 := h.holds _ (List.mem_cons_of_mem _ (List.mem_cons_self ..))
  have h2 := h.holds _ (List.mem_cons_of_mem _ (List.mem_cons_of_mem _ (List.mem_cons_self ..)))
  have h3 := h.holds _ (List.mem_cons_of_mem _ (List.mem_cons_of_mem _ (List.mem_cons_of_mem _ (List.mem_cons_self ..))))
  have h4 := h.holds _ (List.mem_cons_of_mem _ (List.mem_cons_of_mem _ (List.mem_cons_of_mem _ (List.mem_cons_of_mem _ (List.mem_cons_self ..)))))
  exact .at ⟨h0, h1, h2, h3, h4⟩ hP
/-- The chains that lie before us are those of the first k edges. -/
structure ChR (es : List Pr) (k : Nat) (cs : RL) : Prop where
  len : cs.length = (selU es k).length
  at' : ∀ (j : Nat) e p, (selU es k)[j]? = some e → cs[j]? = some p → WrtR (endA es e) (endB es e) p.2 ∧ 2 ≤ p.2.length ∧ p.2.length ≤ es.length * 4 + 1
theorem ChR.next {es : List Pr} {k : Nat} {cs : RL} {p : Value × List Int} (h : ChR es k cs) (hs : selU es (k + 1) = selU es k ++ [k]) (hp : WrtR (endA es k) (endB es k) p.2 ∧ 2 ≤ p.2.length ∧ p.2.length ≤ es.length * 4 + 1) : ChR es (k + 1) (cs ++ [p]) := by
  refine ⟨by rw [hs]; simp [h.len], fun j e q hj hq => ?_⟩
  rw [hs] at hj
  by_cases hlt : j < cs.length
  · rw [List.getElem?_append_left hlt] at hq
    rw [List.getElem?_append_left (by rw [← h.len]; exact hlt)] at hj
    exact h.at' j e q hj hq
  · rw [List.getElem?_append_right (by omega)] at hq
    rw [List.getElem?_append_right (by rw [← h.len]; omega), ← h.len] at hj
    have : j - cs.length = 0 := by
      have := (List.getElem?_eq_some_iff.1 hq).1
      simp at this; omega
    rw [this] at hj hq
    simp at hj hq
    subst hj hq
    exact hp
structure ChI where
  i : Nat
  f : Nat → Bool
  cs : RL
  v : Value
structure ChJ where
  j : Nat
  g : Nat → Bool
theorem Chains_calls {N : Int} {es : List Pr} {va : Value} {w : World} (hg : PrV w va es) (hV : Vld N es) :
    Calls Tryz.prog 127 #[.agg #[.int .i64 N, va]] w (Ret w [] fun r M => ∃ v cs, r = .tuple #[v, .int .i64 0] ∧ ChR es es.length cs ∧ M = slc v 44 1 (rowsV cs) :: rowsC 3 cs) := by
  obtain ⟨A, cap, rfl, hr, hlc, hcm, hle⟩ := hg
  have hfew := hV.few
  refine calls_of (args := [_]) (L := []) Tryz.func127 rfl Tryz.ntmps127 rfl (Own.start _ _) ?_
  refine Zs ?_
  refine Seq.new rfl rfl (n_box rfl rfl rfl) fun g1 => ?_
  refine Za ?_
  refine Za ?_
  refine Zx ?_
  refine Zs ?_
  refine Seq.val rfl rfl (v_loads (vs := [_, _]) rfl rfl ag24 sz24 rfl (hass_blk rfl)) ?_
  refine Seq.rel rfl rfl (r_call en125 rfl rfl rfl (fun w' hw => New_calls N es A cap w' (hr.keep0 hw) (by omega))) ?_
  intro v14 L14 hC14
  obtain ⟨_, M, hP, rfl, rfl⟩ := hC14.resolve_left (fun h => h.1 hV)
  simp only [adjL, List.cons_append, List.nil_append]
  refine Zm ?_
  refine Ze ?_
  refine Ze ?_
  refine Za ?_
  refine Za ?_
  refine Zx ?_
  refine DC.seq ?_
  refine Zs ?_
  refine Zm ?_
  refine Seq.pur rfl rfl (p_neq rfl rfl rfl) ?_
  refine Zx ?_
  refine DC.cond rfl (fun c2 => ?_) (fun c2 => ?_)
  · refine Zs ?_
    refine Zm ?_
    refine Za ?_
    refine Za ?_
    refine Zx ?_
    refine DC.ret ?_
    refine Fin.ret_then <| ?_
    refine Fin.end2 (.inl rfl) rfl rfl rfl ?_
    simp at c2
  · refine DC.skip ?_
    refine Fin.then ?_
    refine Zs ?_
    refine Zf fi24_1 ?_
    refine Zl ag22 ?_
    refine Zn Tryz.underlying22 ?_
    refine Seq.new rfl rfl (n_make (k := es.length) rfl rfl rfl Tryz.underlying188 sz4 by4 ze4 rfl (by omega) (by omega) (made_bls _)) fun g23 => ?_
    refine Za ?_
    refine Zx ?_
    refine Zs ?_
    refine Za ?_
    refine Zx ?_
    refine DC.seq ?_
    refine Zs ?_
    refine Zf fi24_1 ?_
    refine Zl ag22 ?_
    refine Zn Tryz.underlying22 ?_
    refine Zm ?_
    refine Zx ?_
    refine DC.block ?_
    refine DC.own (fun w hw => own_nil (t := 44) (m := 1) hw) ?_
    refine DC.loop (ι := ChI) (fun j => j.i ≤ es.length ∧ ChR es j.i j.cs ∧ ∀ x, x < es.length → (j.f x = true ↔ ∃ e, e ∈ selU es j.i ∧ ∃ y, y ∈ chainOf es e ∧ y / 2 = x))
      (fun j => [(4, .pointer (some ⟨M.gp, 0, none⟩)), (6, .slice (some ⟨g23, 0, none⟩) es.length es.length), (7, j.v), (25, .slice A es.length cap), (26, .int .i64 es.length), (27, .int .i64 j.i)])
      (fun j => slc j.v 44 1 (rowsV j.cs) :: blk g23 4 (bls es.length j.f).toArray :: blk M.gp 234 #[sl M.g0 M.fr, sl M.g1 M.st, sl M.g2 M.ou, sl M.g3 M.pl] :: blk M.g0 3 (ints M.fr).toArray :: blk M.g1 3 (ints M.st).toArray :: blk M.g2 3 (ints M.ou).toArray :: blk M.g3 3 (ints M.pl).toArray :: rowsC 3 j.cs) (fun j => es.length - j.i) ⟨0, fun _ => false, [], .slice none 0 0⟩
      ⟨Nat.zero_le _, ⟨rfl, fun j e p h _ => by simp [selU] at h⟩, fun x _ => ⟨fun h => by simp at h, fun ⟨e, h, _⟩ => by simp [selU] at h⟩⟩ ⟨rfl, rfl, rfl, rfl, rfl, rfl, trivial⟩ (.cons 0 rfl (.cons 0 rfl (.cons 0 rfl (.cons 0 rfl (.cons 0 rfl (.cons 0 rfl (.cons 0 rfl .nil))))))) ?_
    rintro ⟨i, f, cs, v7⟩ ⟨hi, hch, hf⟩
    dsimp only at hi hch hf ⊢
    refine Zs ?_
    refine Zc ?_
    refine Zx ?_
    refine DC.seq ?_
    refine DC.cond rfl (fun c7 => ?_) (fun c7 => ?_)
    · have hlt : i < es.length := by simpa using c7
      have hcsl : cs.length ≤ i := by rw [hch.len]; exact selU_len i
      refine DC.skip ?_
      refine Fin.then ?_
      refine DC.seq ?_
      refine DC.block ?_
      refine Zs ?_
      refine Zm ?_
      refine Za ?_
      refine Zx ?_
      refine DC.seq ?_
      refine Zs ?_
      refine Zm ?_
      refine Zm ?_
      refine Zi Tryz.underlying188 sz4 ?_
      refine Seq.val rfl rfl (v_load rfl rfl ag4 (has_row (bls_get f hlt))) ?_
      refine Zx ?_
      refine DC.cond rfl (fun c9 => ?_) (fun c9 => ?_)
      · refine DC.exit ?_
        refine Fin.exit_then <| Fin.exit_here <| ?_
        refine Fin.then ?_
        refine DC.region ?_
        refine Zp ?_
        refine Zm ?_
        refine Seq.nil ?_
        have hsel : selU es (i + 1) = selU es i := by
          show (if _ then _ else _) = _
          rw [if_pos ((hf i hlt).1 c9)]
        refine Fin.again ⟨i + 1, f, cs, v7⟩ (by dsimp only; omega) ⟨by dsimp only; omega, ⟨by dsimp only; rw [hsel]; exact hch.len, by dsimp only; rw [hsel]; exact hch.at'⟩, by dsimp only; rw [hsel]; exact hf⟩ ⟨rfl, rfl, rfl, rfl, rfl, rfl, trivial⟩ (Pick.all _)
      · refine DC.skip ?_
        refine Fin.then ?_
        refine Zs ?_
        refine Zm ?_
        refine Zm ?_
        refine Seq.rel rfl rfl (r_call en160 rfl rfl rfl (fun w' hw => whole_calls (adj_own hw (.cons 2 rfl (.cons 2 rfl (.cons 2 rfl (.cons 2 rfl (.cons 2 rfl .nil))))) hP) hlt)) ?_
        rintro v9 _ rfl
        refine Za ?_
        refine Zx ?_
        refine DC.seq ?_
        refine DC.seq ?_
        have hcl := chain_len hV hlt
        have hsel : selU es (i + 1) = selU es i ++ [i] := by
          show (if _ then _ else _) = _
          have c9' : f i = false := c9
          rw [if_neg (fun h => by rw [(hf i hlt).2 h] at c9'; cases c9')]
        refine DC.slcs (i := 0) (xs := chainOf es i) rfl (by omega) ?_
        rintro A9 c9' rfl hA9
        obtain ⟨ad9, rfl⟩ := hA9 (chain_ne i)
        refine DC.region ?_
        refine Zm ?_
        refine Zn Tryz.underlying44 ?_
        refine Zm ?_
        refine Zx ?_
        refine DC.block ?_
        refine DC.loop (ι := ChJ) (fun j => j.j ≤ (chainOf es i).length ∧ ∀ x, x < es.length → (j.g x = true ↔ f x = true ∨ ∃ (q : Nat) (y : Int), q < j.j ∧ (chainOf es i)[q]? = some y ∧ y / 2 = x))
          (fun j => [(4, .pointer (some ⟨M.gp, 0, none⟩)), (6, .slice (some ⟨g23, 0, none⟩) es.length es.length), (7, v7), (9, .slice (some ad9) (chainOf es i).length c9'), (25, .slice A es.length cap), (26, .int .i64 es.length), (27, .int .i64 i), (37, .slice (some ad9) (chainOf es i).length c9'), (38, .int .i64 (chainOf es i).length), (39, .int .i64 j.j)])
          (fun j => slc (.slice (some ad9) (chainOf es i).length c9') 3 1 (ints (chainOf es i)) :: slc v7 44 1 (rowsV cs) :: blk g23 4 (bls es.length j.g).toArray :: blk M.gp 234 #[sl M.g0 M.fr, sl M.g1 M.st, sl M.g2 M.ou, sl M.g3 M.pl] :: blk M.g0 3 (ints M.fr).toArray :: blk M.g1 3 (ints M.st).toArray :: blk M.g2 3 (ints M.ou).toArray :: blk M.g3 3 (ints M.pl).toArray :: rowsC 3 cs) (fun j => (chainOf es i).length - j.j) ⟨0, f⟩
          ⟨Nat.zero_le _, fun x _ => ⟨.inl, fun h => h.elim id fun ⟨_, _, h, _⟩ => absurd h (Nat.not_lt_zero _)⟩⟩ ⟨rfl, rfl, rfl, rfl, rfl, rfl, rfl, rfl, rfl, rfl, trivial⟩ (Pick.all _) ?_
        rintro ⟨j, g⟩ ⟨hj, hgx⟩
        dsimp only at hj hgx ⊢
        refine Zs ?_
        refine Zc ?_
        refine Zx ?_
        refine DC.seq ?_
        refine DC.cond rfl (fun c12 => ?_) (fun c12 => ?_)
        · have hjl : j < (chainOf es i).length := by simpa using c12
          obtain ⟨y, hy⟩ : ∃ y, (chainOf es i)[j]? = some y := ⟨_, List.getElem?_eq_getElem hjl⟩
          obtain ⟨hy0, hy1⟩ := chain_all hV hlt y (List.mem_of_getElem? hy)
          refine DC.skip ?_
          refine Fin.then ?_
          refine DC.seq ?_
          refine DC.block ?_
          refine Zs ?_
          refine Seq.pur rfl rfl (p_index1 (ad' := ad9.add j) rfl rfl rfl Tryz.underlying44 sz3 (by omega) (by omega) rfl) ?_
          refine Seq.val rfl rfl (v_load rfl rfl ag3 (has_slcI (i := 0) rfl hy (by omega))) ?_
          refine Za ?_
          refine Zx ?_
          refine DC.region ?_
          refine Zm ?_
          refine Zm ?_
          refine Seq.pur rfl rfl (p_quo rfl rfl rfl (by omega) (by omega)) ?_
          refine Zi Tryz.underlying188 sz4 ?_
          refine Seq.sto rfl rfl (s_store (cs' := (bls es.length (updB g (y / 2).toNat true)).toArray) rfl rfl rfl sz4 rfl (by simp; omega) (bls_set g true)) ?_
          refine Seq.nil ?_
          refine Fin.inBlock ?_
          refine Fin.then ?_
          refine DC.region ?_
          refine Zp ?_
          refine Zm ?_
          refine Seq.nil ?_
          refine Fin.again ⟨j + 1, updB g (y / 2).toNat true⟩ (by dsimp only; omega) ⟨by dsimp only; omega, fun x hx => ?_⟩ ⟨rfl, rfl, rfl, rfl, rfl, rfl, rfl, rfl, rfl, rfl, trivial⟩ (Pick.all _)
          dsimp only
          unfold updB
          split
          · rename_i e; subst e
            simp only [true_iff]
            exact .inr ⟨j, y, by omega, hy, by omega⟩
          · rename_i e
            rw [hgx x hx]
            constructor
            · rintro (h1 | ⟨q, z, h1, h2, h3⟩)
              · exact .inl h1
              · exact .inr ⟨q, z, by omega, h2, h3⟩
            · rintro (h1 | ⟨q, z, h1, h2, h3⟩)
              · exact .inl h1
              · rcases Nat.lt_succ_iff_lt_or_eq.1 h1 with h1 | rfl
                · exact .inr ⟨q, z, h1, h2, h3⟩
                · rw [hy] at h2; cases h2
                  exact absurd (by omega) e
        · refine DC.exit ?_
          refine Fin.exit_then <| Fin.exit_then <| Fin.exit_here <| ?_
          refine Fin.then ?_
          refine DC.region ?_
          refine Zm ?_
          refine Zm ?_
          refine Zm ?_
          refine Seq.rel rfl rfl (r_call en161 rfl rfl rfl (fun w' hw => written_calls (adj_own hw (.cons 3 rfl (.cons 3 rfl (.cons 3 rfl (.cons 3 rfl (.cons 3 rfl .nil))))) hP) (slb_own hw) (chain_ne i) (chain_all hV hlt) (chain_link hV hlt) (by omega))) ?_
          rintro v51 _ ⟨c, rfl, hclen, hwr⟩
          simp only [List.cons_append, List.nil_append]
          refine Seq.slcs (i := 0) (xs := c) rfl (by omega) ?_
          rintro A51 c51 rfl _
          refine Seq.new rfl rfl (n_slit (cs := #[_]) rfl rfl Tryz.underlying25 sz44 ze44 rfl (by decide) (by decide) rfl rfl) fun g52 => ?_
          refine Seq.gen rfl rfl (g_append rfl rfl rfl Tryz.underlying25 sz44 by44 ze44 rfl (by decide) (by decide) (news := [.slice A51 c.length c51]) (k := 1) (fun w hw => hw.perm (perm_eraseIdx (i := 3) rfl).symm) (.inl ⟨_, _, rfl, hass_blk rfl⟩) rfl (fun u hu => by rw [List.mem_singleton.1 hu]; rfl) (by simp; omega)) ?_
          rintro v53 _ rfl
          refine Za ?_
          refine Seq.nil ?_
          refine Fin.inBlock ?_
          refine Fin.then ?_
          refine DC.region ?_
          refine Zp ?_
          refine Zm ?_
          refine Seq.nil ?_
          have hjl : j = (chainOf es i).length := by simp at c12; omega
          subst hjl
          refine Fin.own (M := slc v53 44 1 (rowsV (cs ++ [(.slice A51 c.length c51, c)])) :: blk g23 4 (bls es.length g).toArray :: blk M.gp 234 #[sl M.g0 M.fr, sl M.g1 M.st, sl M.g2 M.ou, sl M.g3 M.pl] :: blk M.g0 3 (ints M.fr).toArray :: blk M.g1 3 (ints M.st).toArray :: blk M.g2 3 (ints M.ou).toArray :: blk M.g3 3 (ints M.pl).toArray :: rowsC 3 (cs ++ [(.slice A51 c.length c51, c)])) (fun w hw => ?_) ?_
          · have e1 : rowsV (cs ++ [(.slice A51 c.length c51, c)]) = rowsV cs ++ [.slice A51 c.length c51] := by simp [rowsV]
            have e2 : rowsC 3 (cs ++ [(.slice A51 c.length c51, c)]) = rowsC 3 cs ++ [slc (.slice A51 c.length c51) 3 1 (ints c)] := by simp [rowsC]
            rw [e1, e2]
            have h1 := hw.sub (L' := slc v53 44 1 (rowsV cs ++ [.slice A51 c.length c51]) :: slc (.slice A51 c.length c51) 3 1 (ints c) :: blk g23 4 (bls es.length g).toArray :: blk M.gp 234 #[sl M.g0 M.fr, sl M.g1 M.st, sl M.g2 M.ou, sl M.g3 M.pl] :: blk M.g0 3 (ints M.fr).toArray :: blk M.g1 3 (ints M.st).toArray :: blk M.g2 3 (ints M.ou).toArray :: blk M.g3 3 (ints M.pl).toArray :: rowsC 3 cs) ((((List.Sublist.refl _).cons _).cons_cons _ |>.cons _).cons_cons _)
            refine h1.perm (List.Perm.cons _ ?_)
            have := List.perm_append_comm (l₁ := blk g23 4 (bls es.length g).toArray :: blk M.gp 234 #[sl M.g0 M.fr, sl M.g1 M.st, sl M.g2 M.ou, sl M.g3 M.pl] :: blk M.g0 3 (ints M.fr).toArray :: blk M.g1 3 (ints M.st).toArray :: blk M.g2 3 (ints M.ou).toArray :: blk M.g3 3 (ints M.pl).toArray :: rowsC 3 cs) (l₂ := [slc (.slice A51 c.length c51) 3 1 (ints c)])
            simpa using this
          have hca : (chainOf es i)[0]? = some (((chainOf es i)[0]?).getD (-1)) := by
            obtain ⟨x, hx⟩ : ∃ x, (chainOf es i)[0]? = some x := ⟨_, List.getElem?_eq_getElem (List.length_pos_iff.2 (chain_ne i))⟩
            rw [hx]; rfl
          have hcz : (chainOf es i)[(chainOf es i).length - 1]? = some (wI es (2 * i) (wayT es (2 * i))) := by rw [← List.getLast?_eq_getElem?, chain_last]
          have hcp := List.length_pos_iff.2 (chain_ne (es := es) i)
          refine Fin.again ⟨i + 1, g, cs ++ [(.slice A51 c.length c51, c)], v53⟩ (by dsimp only; omega) ⟨by dsimp only; omega, hch.next hsel ⟨hwr _ _ hca hcz, by dsimp only; omega, by dsimp only; omega⟩, fun x hx => ?_⟩ ⟨rfl, rfl, rfl, rfl, rfl, rfl, trivial⟩ (Pick.all _)
          dsimp only
          rw [hgx x hx, hf x hx, hsel]
          constructor
          · rintro (⟨e, he, h⟩ | ⟨q, y, _, hq, hy⟩)
            · exact ⟨e, by simp [he], h⟩
            · exact ⟨i, by simp, y, List.mem_of_getElem? hq, hy⟩
          · rintro ⟨e, he, y, hy, hyx⟩
            rcases List.mem_append.1 he with he | he
            · exact .inl ⟨e, he, y, hy, hyx⟩
            · simp at he; subst he
              obtain ⟨q, hq⟩ := List.mem_iff_getElem?.1 hy
              exact .inr ⟨q, y, (List.getElem?_eq_some_iff.1 hq).1, hq, hyx⟩
    · refine DC.exit ?_
      refine Fin.exit_then <| Fin.exit_then <| Fin.exit_here <| ?_
      refine Fin.then ?_
      refine Zs ?_
      refine Zm ?_
      refine Za ?_
      refine Za ?_
      refine Zx ?_
      refine DC.ret ?_
      have hie : i = es.length := by simp at c7; omega
      subst hie
      refine Fin.own (M := slc v7 44 1 (rowsV cs) :: rowsC 3 cs) (fun w hw => hw.sub (((((((List.Sublist.refl _).cons _).cons _).cons _).cons _).cons _).cons _ |>.cons_cons _)) ?_
      refine Fin.weak (E' := [(2, _), (3, _)]) ⟨rfl, rfl, trivial⟩ (Pick.all _) ?_
      refine Fin.end2 (.inl rfl) rfl rfl rfl ?_
      exact ⟨v7, cs, rfl, hch, rfl⟩
end Go.Fl

set_option linter.unusedVariables false
set_option linter.unusedSimpArgs false
set_option linter.unusedSectionVars false
namespace Go.Fl
open Go
section
variable {κ : Type} [DecidableEq κ]
variable {P : Program} {w0 w : World} {K : List Nat} {n : Nat} {ds : List Deferred} {E : Env} {L : List Chunk} {o : Oper} {x y : Operand} {enc : κ → Value} {m : List (κ × Value)} {g : Nat}
theorem v_lenMap {t kt et : TypeId} (i : Nat) (hi : L[i]? = some (mpc enc g m)) (ho : o.op = .call ⟨.builtin .len, #[x], #[t]⟩) (hx : ev n E x = some (.map (some g))) (ht : P.underlying t = some (.map kt et)) :
    Val P w0 K n ds E L o (.int .i64 m.length) := by
  intro a w ha hw
  obtain ⟨es, clock, h1, h2, _⟩ := own_mem i hi hw
  have hg : (getObj g).run P w = .ok (.map es clock) w := by simp [getObj, Sem.run, h1]
  have hl : es.size = m.length := by have := congrArg List.length h2; simpa using this
  simp [execOp, ho, resolve, ha.ev hx, invoke, builtin, Builtin.len_, run_underlying ht, hg, goInt, hl]
theorem p_indexA {t e sz len : Nat} {ad ad' : Addr} {k : IntKind} {i : Int} (ho : o.op = .indexAddr t x y) (hx : ev n E x = some (.pointer (some ad))) (hy : ev n E y = some (.int k i))
    (ht : P.underlying t = some (.array len e)) (hm : sizeT P e = some sz) (h0 : 0 ≤ i) (h1 : i < len) (he : ad.add (i.toNat * sz) = ad') : Pur P n ds E o (.pointer (some ad')) := by
  intro a w ha; subst he
  simp [execOp, ho, ha.ev hx, ha.ev hy, Instr.indexAt, asIntOf, Instr.sureAddr, run_underlying ht, run_sizeT hm, h0, h1]
theorem p_array {t e sz len : Nat} {ps : Array (Nat × Operand)} {vs : List (Nat × Value)} {zv : Value} {zs l : List Value} {cs : Array Value} (ho : o.op = .build t ps) (hp : evps n E ps.toList = some vs)
    (ht : P.underlying t = some (.array len e)) (hm : sizeT P e = some sz) (hz : zeroT P t = some zv) (hzs : zv.cells.toList = zs) (hf : fillL (fun i => some (i * sz, sz)) zs vs = some l) (hc : l.toArray = cs) : Pur P n ds E o (.agg cs) := by
  intro a w ha
  subst hc hzs
  have h1 : (ps.map fun (p : Nat × Operand) => (p.1, a.eval p.2)) = vs.toArray := by
    apply Array.ext'; rw [Array.toList_map]; exact evps_eval ha hp
  have h2 : (ps.map fun (i, x) => (i, a.eval x)) = vs.toArray := h1
  have h3 := fill_of hf
  simp only [execOp, ho, h2]
  simp [Instr.build, run_zeroT hz, run_underlying ht, run_sizeT hm, h3]
theorem Fin.endctt {P : Program} {w0 : World} {K : List Nat} {n : Nat} {E : Env} {L : List Chunk} {u u2 : Value} {fn : Func} {p q s : Tmp} {ty : TypeId} {g t : Nat} {cs : Array Value} {C : Value → List Chunk → Prop} {e : Exit} (he : e = .ret ∨ e = .normal) (hr : fn.results = #[.cell p ty, .tmp q, .tmp s])
    (hv : ev n E (.tmp p) = some (.pointer (some ⟨g, 0, none⟩))) (hq : ev n E (.tmp q) = some u) (hq2 : ev n E (.tmp s) = some u2) [h : Find L g t cs] (ht : aggT P ty = some true) (hs : sizeT P ty = some cs.size)
    (hR : ∃ L', (∀ w, Own w0 K w L → Own w0 K w L') ∧ C (.tuple #[.agg cs, u, u2]) L') : Fin w0 K n [] (bodyPost P fn (Ret w0 K C) e) E L := by
  intro a w ha hO
  obtain ⟨L', hL, hC⟩ := hR
  have hg := hO.holds _ h.mem
  have hp : a.tmps[p]?.getD undef = .pointer (some ⟨g, 0, none⟩) := by have := ha.ev hv; simpa [Act.eval] using this
  have hq' : a.tmps[q]?.getD undef = u := by have := ha.ev hq; simpa [Act.eval] using this
  have hq2' : a.tmps[s]?.getD undef = u2 := by have := ha.ev hq2; simpa [Act.eval] using this
  have h1 : a.defers = [] ∧ ∃ v, (results fn a.tmps).run P w = .ok v w ∧ Ret w0 K C (.returned v) w := by
    refine ⟨ha.defers, _, ?_, .tuple #[.agg cs, u, u2], L', rfl, hC, hL w hO⟩
    simp [results, hr, hp, hq', hq2', asAddr, run_cellT hg ht hs]
  rcases he with rfl | rfl <;> exact h1
end
end Go.Fl

set_option linter.unusedVariables false
set_option linter.unusedSimpArgs false
set_option maxRecDepth 100000
namespace Go.Fl
open Go Go.Proofs
open Classical
theorem brV_succ (es : List Pr) (i : Nat) : brV es (i + 1) = brV es i ++ if degV es (i : Int) ≠ 0 ∧ degV es (i : Int) ≠ 2 then [(i : Int)] else [] := by
  unfold brV
  rw [List.range_succ, List.filter_append, List.map_append]
  congr 1
  by_cases h : degV es (i : Int) ≠ 0 ∧ degV es (i : Int) ≠ 2 <;> simp [h]
theorem brV_len (es : List Pr) (i : Nat) : (brV es i).length ≤ i := by
  unfold brV
  rw [List.length_map]
  have := List.length_filter_le (fun v : Nat => decide (degV es (v : Int) ≠ 0 ∧ degV es (v : Int) ≠ 2)) (List.range i)
  simpa using this
theorem brV_mono {es : List Pr} {i n : Nat} (h : i ≤ n) {x : Int} (hx : x ∈ brV es i) : x ∈ brV es n := by
  unfold brV at hx ⊢
  obtain ⟨v, hv, rfl⟩ := List.mem_map.1 hx
  obtain ⟨h1, h2⟩ := List.mem_filter.1 hv
  exact List.mem_map.2 ⟨v, List.mem_filter.2 ⟨List.mem_range.2 (by have := List.mem_range.1 h1; omega), h2⟩, rfl⟩
structure DgI where
  i : Nat
  d : Nat
  v : Value
theorem kdegrees_calls {n : Nat} {es : List Pr} {M : AdjM} {p : Option Addr} {w : World} (hA : AV w n es M p) :
    Calls Tryz.prog 126 #[.pointer p] w (Ret w [] fun r L =>
      (∃ A c d, r = .tuple #[.slice A (brV es n).length c, .int .i64 (d : Nat)] ∧ L = [slc (.slice A (brV es n).length c) 3 1 (ints (brV es n))] ∧ ∀ u, u ∈ brV es n → degV es u = d) ∨
      (r = .tuple #[.slice none 0 0, .int .i64 0] ∧ L = [] ∧ ¬ ∃ d, ∀ u, u ∈ brV es n → degV es u = d)) := by
  have hV := hA.vld
  have hn := hV.hi
  refine calls_of (args := [_]) (L := []) Tryz.func126 rfl Tryz.ntmps126 rfl (Own.start _ _) ?_
  refine Zs ?_
  refine Za ?_
  refine Za ?_
  refine Zx ?_
  refine Zs ?_
  refine Za ?_
  refine Zx ?_
  refine Zs ?_
  refine Za ?_
  refine Zx ?_
  refine DC.seq ?_
  refine Zs ?_
  refine Zm ?_
  refine Seq.rel0 rfl rfl (r_call en158 rfl rfl rfl (fun w' hw => N_calls (hA.keep hw))) ?_
  rintro _ rfl
  refine Zm ?_
  refine Zx ?_
  refine DC.block ?_
  refine DC.own (fun w hw => own_nil (t := 3) (m := 1) hw) ?_
  refine DC.loop (ι := DgI) (fun j => j.i ≤ n ∧ (∀ u, u ∈ brV es j.i → degV es u = j.d) ∧ (j.d = 0 → brV es j.i = []) ∧ (j.d ≠ 0 → brV es j.i ≠ []))
    (fun j => [(0, .pointer p), (4, j.v), (5, .int .i64 j.d), (9, .int .i64 n), (10, .int .i64 j.i)])
    (fun j => [slc j.v 3 1 (ints (brV es j.i))]) (fun j => n - j.i) ⟨0, 0, .slice none 0 0⟩ ⟨Nat.zero_le _, by simp [brV], fun _ => by simp [brV], fun h => absurd rfl h⟩ ⟨rfl, rfl, rfl, rfl, rfl, trivial⟩ (.cons 0 rfl .nil) ?_
  rintro ⟨i, d, v4⟩ ⟨hi, hd, hd0, hd1⟩
  dsimp only at hi hd hd0 hd1 ⊢
  refine Zs ?_
  refine Zc ?_
  refine Zx ?_
  refine DC.seq ?_
  refine DC.cond rfl (fun c4 => ?_) (fun c4 => ?_)
  · have hlt : i < n := by simpa using c4
    have hbl := brV_len es i
    refine DC.skip ?_
    refine Fin.then ?_
    refine DC.seq ?_
    refine DC.block ?_
    refine Zs ?_
    refine Zm ?_
    refine Za ?_
    refine Zx ?_
    refine Zs ?_
    refine Zm ?_
    refine Zm ?_
    refine Seq.rel0 rfl rfl (r_call en159 rfl rfl rfl (fun w' hw => Degree_calls (hA.keep hw) _)) ?_
    rintro _ rfl
    refine Za ?_
    refine Zx ?_
    refine DC.block ?_
    refine Zs ?_
    refine Zm ?_
    refine Seq.pur rfl rfl (p_eql rfl rfl rfl) ?_
    refine Zm ?_
    refine Seq.split 19 rfl (fun k8_2 => ?_) (fun k8_2 => ?_)
    · refine Zk ?_
      refine Zk ?_
      refine Zt ?_
      refine Za ?_
      refine Zx ?_
      refine DC.cond_t rfl ?_
      refine DC.skip ?_
      refine Fin.inBlock ?_
      refine Fin.inBlock ?_
      refine Fin.then ?_
      refine DC.region ?_
      refine Zp ?_
      refine Zm ?_
      refine Seq.nil ?_
      have hb : brV es (i + 1) = brV es i := by
        have : degV es (i : Int) = 0 := by unfold degV; simp at k8_2; simp [k8_2]
        rw [brV_succ, if_neg (by omega), List.append_nil]
      refine Fin.again ⟨i + 1, d, v4⟩ (by dsimp only; omega) ⟨by dsimp only; omega, by dsimp only; rw [hb]; exact hd, by dsimp only; rw [hb]; exact hd0, by dsimp only; rw [hb]; exact hd1⟩ ⟨rfl, rfl, rfl, rfl, rfl, trivial⟩ (.cons' 0 rfl (by dsimp only; rw [hb]) .nil)
    · refine Zm ?_
      refine Seq.pur rfl rfl (p_eql rfl rfl rfl) ?_
      refine Zg ?_
      refine Za ?_
      refine Zx ?_
      refine DC.cond rfl (fun c8 => ?_) (fun c8 => ?_)
      · refine DC.skip ?_
        refine Fin.inBlock ?_
        refine Fin.inBlock ?_
        refine Fin.then ?_
        refine DC.region ?_
        refine Zp ?_
        refine Zm ?_
        refine Seq.nil ?_
        have hb : brV es (i + 1) = brV es i := by
          have : degV es (i : Int) = 2 := by unfold degV; simp at c8; omega
          rw [brV_succ, if_neg (by omega), List.append_nil]
        refine Fin.again ⟨i + 1, d, v4⟩ (by dsimp only; omega) ⟨by dsimp only; omega, by dsimp only; rw [hb]; exact hd, by dsimp only; rw [hb]; exact hd0, by dsimp only; rw [hb]; exact hd1⟩ ⟨rfl, rfl, rfl, rfl, rfl, trivial⟩ (.cons' 0 rfl (by dsimp only; rw [hb]) .nil)
      · refine Zs ?_
        refine Zm ?_
        refine Seq.pur rfl rfl (p_eql rfl rfl rfl) ?_
        refine Zm ?_
        refine Seq.split 26 rfl (fun k9_2 => ?_) (fun k9_2 => ?_)
        · refine Zk ?_
          refine Zk ?_
          refine Zk ?_
          refine Zt ?_
          refine Za ?_
          refine Zx ?_
          refine DC.cond_t rfl ?_
          refine DC.region ?_
          refine Zm ?_
          refine Zm ?_
          refine Seq.new rfl rfl (n_slit (cs := #[_]) rfl rfl Tryz.underlying44 sz3 ze3 rfl (by decide) (by decide) rfl rfl) fun g33 => ?_
          refine Seq.gen rfl rfl (g_append rfl rfl rfl Tryz.underlying44 sz3 by3 ze3 rfl (by decide) (by decide) (fun w hw => hw.pick (.cons 1 rfl .nil)) (.inl ⟨_, _, rfl, hass_blk rfl⟩) rfl (ints_one [_] []) (by simp; omega)) ?_
          rintro v34 _ rfl
          have hne : degV es (i : Int) ≠ 0 ∧ degV es (i : Int) ≠ 2 := by
            have h1 : ¬ (((outs es (i : Int)).length : Int) = 0) := by simpa using k8_2
            have h2 : ¬ (((outs es (i : Int)).length : Int) = 2) := by simpa using c8
            unfold degV
            omega
          refine Zm ?_
          refine Za ?_
          refine Za ?_
          refine Seq.nil ?_
          refine Fin.inBlock ?_
          refine Fin.inBlock ?_
          refine Fin.then ?_
          refine DC.region ?_
          refine Zp ?_
          refine Zm ?_
          refine Seq.nil ?_
          have hb : brV es (i + 1) = brV es i ++ [(i : Int)] := by rw [brV_succ, if_pos hne]
          refine Fin.again ⟨i + 1, degV es (i : Int), v34⟩ (by dsimp only; omega) ⟨by dsimp only; omega, ?_, fun h => absurd h hne.1, fun _ => by dsimp only; rw [hb]; simp⟩ ⟨rfl, rfl, rfl, rfl, rfl, trivial⟩ (.cons' 0 rfl (by dsimp only; rw [hb, ints_append]) .nil)
          dsimp only
          have hd00 : d = 0 := by simp at k9_2; omega
          rw [hb, hd0 hd00]
          intro u hu
          simp at hu; subst hu; rfl
        · refine Zm ?_
          refine Zm ?_
          refine Seq.pur rfl rfl (p_eql rfl rfl rfl) ?_
          refine Zg ?_
          refine Za ?_
          refine Zx ?_
          refine DC.cond rfl (fun c9 => ?_) (fun c9 => ?_)
          · refine DC.region ?_
            refine Zm ?_
            refine Zm ?_
            refine Seq.new rfl rfl (n_slit (cs := #[_]) rfl rfl Tryz.underlying44 sz3 ze3 rfl (by decide) (by decide) rfl rfl) fun g33 => ?_
            refine Seq.gen rfl rfl (g_append rfl rfl rfl Tryz.underlying44 sz3 by3 ze3 rfl (by decide) (by decide) (fun w hw => hw.pick (.cons 1 rfl .nil)) (.inl ⟨_, _, rfl, hass_blk rfl⟩) rfl (ints_one [_] []) (by simp; omega)) ?_
            rintro v34 _ rfl
            have hne : degV es (i : Int) ≠ 0 ∧ degV es (i : Int) ≠ 2 := by
              have h1 : ¬ (((outs es (i : Int)).length : Int) = 0) := by simpa using k8_2
              have h2 : ¬ (((outs es (i : Int)).length : Int) = 2) := by simpa using c8
              unfold degV
              omega
            refine Zm ?_
            refine Za ?_
            refine Za ?_
            refine Seq.nil ?_
            refine Fin.inBlock ?_
            refine Fin.inBlock ?_
            refine Fin.then ?_
            refine DC.region ?_
            refine Zp ?_
            refine Zm ?_
            refine Seq.nil ?_
            have hb : brV es (i + 1) = brV es i ++ [(i : Int)] := by rw [brV_succ, if_pos hne]
            refine Fin.again ⟨i + 1, degV es (i : Int), v34⟩ (by dsimp only; omega) ⟨by dsimp only; omega, ?_, fun h => absurd h hne.1, fun _ => by dsimp only; rw [hb]; simp⟩ ⟨rfl, rfl, rfl, rfl, rfl, trivial⟩ (.cons' 0 rfl (by dsimp only; rw [hb, ints_append]) .nil)
            dsimp only
            have hdd : d = degV es (i : Int) := by unfold degV; simp at c9; omega
            rw [hb]
            intro u hu
            rcases List.mem_append.1 hu with hu | hu
            · rw [hd u hu, hdd]
            · simp at hu; subst hu; rfl
          · refine Zs ?_
            refine Za ?_
            refine Za ?_
            refine Zx ?_
            refine DC.ret ?_
            refine Fin.ret_block <| Fin.ret_block <| Fin.ret_then <| Fin.ret_then <| Fin.ret_block <| Fin.ret_then <| ?_
            refine Fin.weak (E' := [(2, _), (3, _)]) ⟨rfl, rfl, trivial⟩ .nil ?_
            refine Fin.end2 (.inl rfl) rfl rfl rfl ?_
            refine .inr ⟨rfl, rfl, ?_⟩
            rintro ⟨d', hd'⟩
            have h0 : d ≠ 0 := by simp at k9_2; omega
            obtain ⟨u, hu⟩ := List.exists_mem_of_ne_nil _ (hd1 h0)
            have hb : brV es (i + 1) = brV es i ++ [(i : Int)] := by
              rw [brV_succ, if_pos]
              have h1 : ¬ (((outs es (i : Int)).length : Int) = 0) := by simpa using k8_2
              have h2 : ¬ (((outs es (i : Int)).length : Int) = 2) := by simpa using c8
              unfold degV
              omega
            have e1 := hd' u (brV_mono hi hu)
            have e2 := hd' i (brV_mono (i := i + 1) (by omega) (by rw [hb]; simp))
            have e3 := hd u hu
            unfold degV at e1 e2 e3
            simp at c9
            omega
  · refine DC.exit ?_
    refine Fin.exit_then <| Fin.exit_then <| Fin.exit_here <| ?_
    refine Fin.then ?_
    refine Zs ?_
    refine Zm ?_
    refine Zm ?_
    refine Za ?_
    refine Za ?_
    refine Zx ?_
    refine DC.ret ?_
    have hie : i = n := by simp at c4; omega
    subst hie
    have hbl := brV_len es i
    refine Fin.slcs (i := 0) (xs := brV es i) rfl (by omega) ?_
    rintro A c rfl _
    refine Fin.weak (E' := [(2, _), (3, _)]) (L' := [slc (.slice A (brV es i).length c) 3 1 (ints (brV es i))]) ⟨rfl, rfl, trivial⟩ (.cons 0 rfl .nil) ?_
    refine Fin.end2 (.inl rfl) rfl rfl rfl ?_
    exact .inl ⟨A, c, d, rfl, rfl, hd⟩
end Go.Fl

set_option linter.unusedVariables false
set_option linter.unusedSimpArgs false
set_option maxRecDepth 100000
namespace Go.Fl
open Go Go.Proofs
open Classical
theorem pick_tail (c : Chunk) : ∀ R : List Chunk, Pick (c :: R) R
  | [] => .nil
  | d :: R => .cons 1 rfl (pick_tail c R)
theorem pick_past (a : Chunk) {M L' : List Chunk} (h : Pick M L') : Pick (a :: M) L' := by
  induction h with
  | nil => exact .nil
  | cons i h r ih => exact .cons (i + 1) h ih
theorem pick_sub {L L' : List Chunk} (h : L'.Sublist L) : Pick L L' := by
  induction h with
  | slnil => exact .nil
  | cons a _ ih => exact pick_past a ih
  | cons_cons a _ ih => exact .cons 0 rfl ih
theorem slb_rows {w0 w : World} {K : List Nat} {F : List Chunk} {t : Nat} {cs : RL} {p : Value × List Int} (hw : Own w0 K w (F ++ rowsC t cs)) (hp : p ∈ cs) : SlB w p.1 p.2 := by
  obtain ⟨i, hi⟩ := List.mem_iff_getElem?.1 hp
  exact slb_own (hw.perm (rows_at hi F).symm)
/-- The values of the map are our rows. -/
def MapR (m : List (Pr × Value)) (cs : RL) : Prop := ∀ q x, lkM m q = some x → ∃ p, p ∈ cs ∧ p.1 = x
theorem joined_calls {gm : Nat} {m : List (Pr × Value)} {cs : RL} {X : List Chunk} {u v : Int} {w : World} (hO : Own w (idsOf (mpc encP gm m :: (X ++ rowsC 3 cs))) w (mpc encP gm m :: (X ++ rowsC 3 cs))) (hm : MapR m cs)
    (hs : ∀ p, p ∈ cs → p.2.length ≤ 1000000000) :
    Calls Tryz.prog 162 #[.map (some gm), .int .i64 u, .int .i64 v] w (Ret w (idsOf (mpc encP gm m :: (X ++ rowsC 3 cs))) fun r M => M = mpc encP gm m :: (X ++ rowsC 3 cs) ∧
      ∃ A l c, r = .tuple #[.slice A l c, .bool (lkM m (srt u v)).isSome]) := by
  obtain ⟨xs, hxl, hxs⟩ : ∃ xs : List Int, xs.length ≤ 1000000000 ∧ ∀ (w0 w' : World) K, Own w0 K w' (mpc encP gm m :: (X ++ rowsC 3 cs)) → SlB w' ((lkM m (srt u v)).getD (.slice none 0 0)) xs := by
    cases hq : lkM m (srt u v) with
    | none => exact ⟨[], by simp, fun _ _ _ _ => .inl ⟨none, 0, rfl, rfl⟩⟩
    | some x =>
      obtain ⟨p, hp, rfl⟩ := hm _ _ hq
      exact ⟨p.2, hs p hp, fun w0 w' K hw => slb_rows (F := mpc encP gm m :: X) hw hp⟩
  refine calls_of (args := [_, _, _]) (L := mpc encP gm m :: (X ++ rowsC 3 cs)) Tryz.func162 rfl Tryz.ntmps162 rfl hO ?_
  refine Zs ?_
  refine Za ?_
  refine Za ?_
  refine Zx ?_
  refine Zs ?_
  refine Zm ?_
  refine Zm ?_
  refine Zm ?_
  refine Seq.pur rfl rfl (p_min rfl rfl rfl) ?_
  refine Zm ?_
  refine Zm ?_
  refine Seq.pur rfl rfl (p_max rfl rfl rfl) ?_
  refine Seq.pur rfl rfl (p_array (cs := #[.int .i64 (min u v), .int .i64 (max u v)]) rfl rfl Tryz.underlying35 sz3 ze35 rfl rfl rfl) ?_
  refine Seq.val rfl rfl (v_lookup (k := srt u v) (ok := true) 0 rfl keyArr rfl rfl rfl Tryz.underlying205 ze44 rfl) ?_
  refine Zm ?_
  refine Ze ?_
  refine Ze ?_
  refine Za ?_
  refine Za ?_
  refine Zx ?_
  refine Zs ?_
  refine Zm ?_
  refine Seq.rel rfl rfl (r_call en52 rfl rfl rfl (fun w' hw => clone_calls (hxs _ w' _ hw) (by omega))) ?_
  rintro v23 _ rfl
  simp only [List.cons_append, List.nil_append]
  refine Za ?_
  refine Zx ?_
  refine DC.seq ?_
  refine Zs ?_
  refine Zm ?_
  refine Zm ?_
  refine Seq.pur rfl rfl (p_gtr rfl rfl rfl) ?_
  refine Zx ?_
  refine DC.cond rfl (fun c3 => ?_) (fun c3 => ?_)
  · refine DC.region ?_
    refine Zm ?_
    refine Seq.gen rfl rfl (g_call en53 rfl rfl rfl (Lc := [slc v23 3 1 (ints xs)]) (F := mpc encP gm m :: (X ++ rowsC 3 cs)) (.refl _) (fun k hk => hk) (fun w' hw => rev_calls (hw.sub (L' := [slc v23 3 1 (ints xs)]) ((List.nil_sublist _).cons_cons _)).self)) ?_
    rintro v28 _ ⟨_, rfl, rfl⟩
    refine Zx ?_
    refine Zs ?_
    refine Zm ?_
    refine Zm ?_
    refine Za ?_
    refine Za ?_
    refine Zx ?_
    refine DC.ret ?_
    refine Fin.shape (i := 0) (vs := ints xs.reverse) (t := 3) (m := 1) rfl ?_
    rintro ⟨A, l, c, rfl⟩
    refine Fin.own (fun w hw => hw.sub (List.sublist_cons_self ..)) ?_
    refine Fin.weak (E' := [(6, _), (7, _)]) ⟨rfl, rfl, trivial⟩ (Pick.all _) ?_
    refine Fin.end2 (.inl rfl) rfl rfl rfl ?_
    exact ⟨rfl, A, l, c, rfl⟩
  · refine DC.skip ?_
    refine Fin.then ?_
    refine Zs ?_
    refine Zm ?_
    refine Zm ?_
    refine Za ?_
    refine Za ?_
    refine Zx ?_
    refine DC.ret ?_
    refine Fin.shape (i := 0) (vs := ints xs) (t := 3) (m := 1) rfl ?_
    rintro ⟨A, l, c, rfl⟩
    refine Fin.own (fun w hw => hw.sub (List.sublist_cons_self ..)) ?_
    refine Fin.weak (E' := [(6, _), (7, _)]) ⟨rfl, rfl, trivial⟩ (Pick.all _) ?_
    refine Fin.end2 (.inl rfl) rfl rfl rfl ?_
    exact ⟨rfl, A, l, c, rfl⟩
theorem filter_take {E : List Pr} {B : List Int} {i : Nat} {x : Int} (hx : B[i]? = some x) (f : Int → Bool) : (B.take (i + 1)).filter f = (B.take i).filter f ++ if f x then [x] else [] := by
  rw [List.take_add_one, hx, List.filter_append]
  congr 1
  cases h : f x <;> simp [h]
structure SdI where
  i : Nat
  v5 : Value
  v6 : Value
theorem sides_calls {gm : Nat} {m : List (Pr × Value)} {cs : RL} {vb : Value} {B : List Int} {E : List Pr} {w : World} (hO : Own w (idsOf (mpc encP gm m :: slc vb 3 1 (ints B) :: rowsC 3 cs)) w (mpc encP gm m :: slc vb 3 1 (ints B) :: rowsC 3 cs)) (hm : MapR m cs)
    (hs : ∀ p, p ∈ cs → p.2.length ≤ 1000000000) (hB : B.length ≤ 1000000) (hE : ∀ q, (lkM m q).isSome = decide (q ∈ E)) :
    Calls Tryz.prog 129 #[vb, .map (some gm)] w (Ret w (idsOf (mpc encP gm m :: slc vb 3 1 (ints B) :: rowsC 3 cs)) fun r M => M = mpc encP gm m :: slc r 3 1 (ints (sidesOf E B)) :: rowsC 3 cs) := by
  refine calls_of (args := [_, _]) (L := mpc encP gm m :: slc vb 3 1 (ints B) :: rowsC 3 cs) Tryz.func129 rfl Tryz.ntmps129 rfl hO ?_
  refine DC.slcs (i := 1) (xs := B) rfl (by omega) ?_
  rintro A c rfl hA
  refine Zs ?_
  refine Za ?_
  refine Zx ?_
  refine Zs ?_
  refine Za ?_
  refine Za ?_
  refine Zx ?_
  refine DC.seq ?_
  refine Zs ?_
  refine Zm ?_
  refine Zn Tryz.underlying44 ?_
  refine Zm ?_
  refine Zx ?_
  refine DC.block ?_
  refine DC.own (fun w hw => own_nil (t := 3) (m := 1) (own_nil (t := 3) (m := 1) hw)) ?_
  refine DC.loop (ι := SdI) (fun j => j.i ≤ B.length)
    (fun j => [(0, .slice A B.length c), (1, .map (some gm)), (5, j.v5), (6, j.v6), (11, .slice A B.length c), (12, .int .i64 B.length), (13, .int .i64 j.i)])
    (fun j => mpc encP gm m :: slc j.v5 3 1 (ints ((B.take j.i).filter fun v => decide (srt (B.headD 0) v ∉ E))) :: slc j.v6 3 1 (ints ((B.take j.i).filter fun v => decide (srt (B.headD 0) v ∈ E))) :: slc (.slice A B.length c) 3 1 (ints B) :: rowsC 3 cs) (fun j => B.length - j.i)
    ⟨0, .slice none 0 0, .slice none 0 0⟩ (Nat.zero_le _) ⟨rfl, rfl, rfl, rfl, rfl, rfl, rfl, trivial⟩ (.cons 2 rfl (.cons 0 rfl (.cons 0 rfl (Pick.all _)))) ?_
  rintro ⟨i, v5, v6⟩ hi
  dsimp only at hi ⊢
  refine Zs ?_
  refine Zc ?_
  refine Zx ?_
  refine DC.seq ?_
  refine DC.cond rfl (fun c3 => ?_) (fun c3 => ?_)
  · have hlt : i < B.length := by simpa using c3
    obtain ⟨ad, rfl⟩ := hA (fun e => by rw [e] at hlt; simp at hlt)
    obtain ⟨x, hx⟩ : ∃ x, B[i]? = some x := ⟨_, List.getElem?_eq_getElem hlt⟩
    obtain ⟨x0, hx0⟩ : ∃ x, B[0]? = some x := ⟨_, List.getElem?_eq_getElem (by omega)⟩
    have hhd : B.headD 0 = x0 := by rw [List.headD_eq_head?_getD, List.head?_eq_getElem?, hx0]; rfl
    have hl5 := List.length_filter_le (fun v => decide (srt (B.headD 0) v ∉ E)) (B.take i)
    have hl6 := List.length_filter_le (fun v => decide (srt (B.headD 0) v ∈ E)) (B.take i)
    rw [List.length_take] at hl5 hl6
    refine DC.skip ?_
    refine Fin.then ?_
    refine DC.seq ?_
    refine DC.block ?_
    refine Zs ?_
    refine Seq.pur rfl rfl (p_index1 (ad' := ad.add i) rfl rfl rfl Tryz.underlying44 sz3 (by omega) (by omega) rfl) ?_
    refine Seq.val rfl rfl (v_load rfl rfl ag3 (has_slcI (i := 3) rfl hx (by omega))) ?_
    refine Za ?_
    refine Zx ?_
    refine Zs ?_
    refine Zm ?_
    refine Zm ?_
    refine Seq.pur rfl rfl (p_index1 (ad' := ad.add 0) rfl rfl rfl Tryz.underlying44 sz3 (by omega) (by omega) rfl) ?_
    refine Seq.val rfl rfl (v_load rfl rfl ag3 (has_slcI (i := 3) rfl hx0 (by omega))) ?_
    refine Zm ?_
    refine Seq.gen rfl rfl (g_call en162 rfl rfl rfl (Lc := mpc encP gm m :: ([slc v5 3 1 (ints ((B.take i).filter fun v => decide (srt (B.headD 0) v ∉ E))), slc v6 3 1 (ints ((B.take i).filter fun v => decide (srt (B.headD 0) v ∈ E))), slc (.slice (some ad) B.length c) 3 1 (ints B)] ++ rowsC 3 cs)) (F := []) (by rw [List.append_nil]; exact .refl _) (fun k hk => hk) (fun w' hw => joined_calls hw.self hm hs)) ?_
    rintro _ _ ⟨_, ⟨rfl, A', l', c', rfl⟩, rfl⟩
    rw [hE, List.append_nil, ← hhd]
    simp only [List.cons_append, List.nil_append]
    refine Zm ?_
    refine Ze ?_
    refine Ze ?_
    refine Za ?_
    refine Za ?_
    refine Zx ?_
    refine Zs ?_
    refine Zm ?_
    refine Zx ?_
    refine DC.cond rfl (fun c6 => ?_) (fun c6 => ?_)
    · refine DC.region ?_
      refine Zm ?_
      refine Zm ?_
      refine Seq.new rfl rfl (n_slit (cs := #[_]) rfl rfl Tryz.underlying44 sz3 ze3 rfl (by decide) (by decide) rfl rfl) fun g29 => ?_
      refine Seq.gen rfl rfl (g_append rfl rfl rfl Tryz.underlying44 sz3 by3 ze3 rfl (by decide) (by decide) (fun w hw => hw.perm (perm_eraseIdx (i := 3) rfl).symm) (.inl ⟨_, _, rfl, hass_blk rfl⟩) rfl (ints_one [_] []) (by simp only [ints_length]; omega)) ?_
      rintro v30 _ rfl
      refine Za ?_
      refine Seq.nil ?_
      refine Fin.inBlock ?_
      refine Fin.then ?_
      refine DC.region ?_
      refine Zp ?_
      refine Zm ?_
      refine Seq.nil ?_
      have h6 : srt (B.headD 0) x ∈ E := by simpa using c6
      refine Fin.again ⟨i + 1, v5, v30⟩ (by dsimp only; omega) (by dsimp only; omega) ⟨rfl, rfl, rfl, rfl, rfl, rfl, rfl, trivial⟩
        (.cons 2 rfl (.cons' 2 rfl ?_ (.cons' 0 rfl ?_ (.cons 1 rfl (pick_tail _ _)))))
      · dsimp only; rw [filter_take (E := E) hx, if_neg (by simpa using h6), List.append_nil]
      · dsimp only; rw [filter_take (E := E) hx, if_pos (by simpa using h6), ints_append]
    · refine DC.region ?_
      refine Zm ?_
      refine Zm ?_
      refine Seq.new rfl rfl (n_slit (cs := #[_]) rfl rfl Tryz.underlying44 sz3 ze3 rfl (by decide) (by decide) rfl rfl) fun g33 => ?_
      refine Seq.gen rfl rfl (g_append rfl rfl rfl Tryz.underlying44 sz3 by3 ze3 rfl (by decide) (by decide) (fun w hw => hw.perm (perm_eraseIdx (i := 2) rfl).symm) (.inl ⟨_, _, rfl, hass_blk rfl⟩) rfl (ints_one [_] []) (by simp only [ints_length]; omega)) ?_
      rintro v34 _ rfl
      refine Za ?_
      refine Seq.nil ?_
      refine Fin.inBlock ?_
      refine Fin.then ?_
      refine DC.region ?_
      refine Zp ?_
      refine Zm ?_
      refine Seq.nil ?_
      have h6 : ¬ srt (B.headD 0) x ∈ E := by simpa using c6
      refine Fin.again ⟨i + 1, v34, v6⟩ (by dsimp only; omega) (by dsimp only; omega) ⟨rfl, rfl, rfl, rfl, rfl, rfl, rfl, trivial⟩
        (.cons 2 rfl (.cons' 0 rfl ?_ (.cons' 1 rfl ?_ (.cons 1 rfl (pick_tail _ _)))))
      · dsimp only; rw [filter_take (E := E) hx, if_pos (by simpa using h6), ints_append]
      · dsimp only; rw [filter_take (E := E) hx, if_neg (by simpa using h6), List.append_nil]
  · refine DC.exit ?_
    refine Fin.exit_then <| Fin.exit_then <| Fin.exit_here <| ?_
    refine Fin.then ?_
    refine DC.seq ?_
    have hie : i = B.length := by simp at c3; omega
    subst hie
    rw [List.take_length]
    have hl5 := List.length_filter_le (fun v => decide (srt (B.headD 0) v ∉ E)) B
    have hl6 := List.length_filter_le (fun v => decide (srt (B.headD 0) v ∈ E)) B
    refine DC.slcs (i := 2) (v := v6) (xs := B.filter fun v => decide (srt (B.headD 0) v ∈ E)) rfl (by omega) ?_
    rintro A6 c6' rfl hA6
    refine DC.region ?_
    refine Zm ?_
    refine Zm ?_
    have hsrc : Src w (idsOf (mpc encP gm m :: slc (.slice A B.length c) 3 1 (ints B) :: rowsC 3 cs)) (mpc encP gm m :: slc v5 3 1 (ints (B.filter fun v => decide (srt (B.headD 0) v ∉ E))) :: slc (.slice A6 (B.filter fun v => decide (srt (B.headD 0) v ∈ E)).length c6') 3 1 (ints (B.filter fun v => decide (srt (B.headD 0) v ∈ E))) :: slc (.slice A B.length c) 3 1 (ints B) :: rowsC 3 cs)
        (.slice A6 (B.filter fun v => decide (srt (B.headD 0) v ∈ E)).length c6') (B.filter fun v => decide (srt (B.headD 0) v ∈ E)).length (ints (B.filter fun v => decide (srt (B.headD 0) v ∈ E))) := by
      by_cases hz : (B.filter fun v => decide (srt (B.headD 0) v ∈ E)) = []
      · rw [hz]
        cases A6 with
        | none => exact .inr ⟨_, rfl, rfl, rfl⟩
        | some ad => exact .inl ⟨ad, _, rfl, fun w hw j u hj => by simp [ints] at hj⟩
      · obtain ⟨ad, rfl⟩ := hA6 hz
        exact .inl ⟨ad, _, rfl, hass_slcI (i := 2) rfl (by omega)⟩
    refine Seq.gen rfl rfl (g_append rfl rfl rfl Tryz.underlying44 sz3 by3 ze3 rfl (by decide) (by decide) (fun w hw => hw.perm (perm_eraseIdx (i := 1) rfl).symm) hsrc (by simp) (ints_one _ []) (by simp only [ints_length]; omega)) ?_
    rintro v38 _ rfl
    refine Za ?_
    refine Zx ?_
    refine DC.ret ?_
    refine Fin.weak (E' := [(4, _)]) (L' := mpc encP gm m :: slc v38 3 1 (ints (sidesOf E B)) :: rowsC 3 cs) ⟨rfl, trivial⟩ (.cons 1 rfl (.cons' 0 rfl (by unfold sidesOf; rw [ints_append]) (pick_past _ (pick_tail _ _)))) ?_
    refine Fin.end1 (.inl rfl) rfl rfl ?_
    rfl
end Go.Fl

set_option linter.unusedVariables false
set_option linter.unusedSimpArgs false
set_option maxRecDepth 100000
namespace Go.Fl
open Go Go.Proofs
open Classical
/-- Which pairs of places there must be a path between. -/
def wantP (k : Int) (i j : Nat) : Bool := decide (i < j) && (decide (k ≠ 2) || (decide (i < 3) && decide (3 ≤ j)))
def cw (k : Int) (n : Nat) : Nat → Nat
  | 0 => 0
  | i + 1 => cw k n i + (List.range n).countP (wantP k i)
theorem cw_le (k : Int) (n : Nat) : ∀ i, cw k n i ≤ i * n
  | 0 => by simp [cw]
  | i + 1 => by
    have := cw_le k n i
    have h2 := List.countP_le_length (p := wantP k i) (l := List.range n)
    simp at h2
    rw [Nat.succ_mul]; unfold cw; omega
theorem cp_succ (k : Int) (i j : Nat) : (List.range (j + 1)).countP (wantP k i) = (List.range j).countP (wantP k i) + if wantP k i j then 1 else 0 := by
  rw [List.range_succ, List.countP_append]
  cases h : wantP k i j <;> simp [h]
def JJ (m : List (Pr × Value)) (S : List Int) (i j : Nat) : Prop := ∀ x y, S[i]? = some x → S[j]? = some y → (lkM m (srt x y)).isSome = true
structure PaI where
  i : Nat
  v : Value
  pv : List Value
theorem paths_calls {k : Int} {gm : Nat} {m : List (Pr × Value)} {cs : RL} {vb : Value} {S : List Int} {w : World} (hO : Own w (idsOf (mpc encP gm m :: slc vb 3 1 (ints S) :: rowsC 3 cs)) w (mpc encP gm m :: slc vb 3 1 (ints S) :: rowsC 3 cs)) (hm : MapR m cs)
    (hs : ∀ p, p ∈ cs → p.2.length ≤ 1000000000) (hS : S.length ≤ 6) :
    Calls Tryz.prog 128 #[.int .i64 k, vb, .map (some gm)] w (Ret w (idsOf (mpc encP gm m :: slc vb 3 1 (ints S) :: rowsC 3 cs)) fun r M => M = [] ∧ ∃ k0 A0 l0 c0 A1 l1 c1 b, r = .tuple #[.agg #[.int .i64 k0, .slice A0 l0 c0, .slice A1 l1 c1], .bool b] ∧
      (b = true ↔ (∀ i j, i < S.length → j < S.length → wantP k i j = true → JJ m S i j) ∧ cw k S.length S.length = m.length)) := by
  refine calls_of (args := [_, _, _]) (L := mpc encP gm m :: slc vb 3 1 (ints S) :: rowsC 3 cs) Tryz.func128 rfl Tryz.ntmps128 rfl hO ?_
  refine DC.slcs (i := 1) (xs := S) rfl (by omega) ?_
  rintro A c rfl hA
  refine Zs ?_
  refine Seq.new rfl rfl (n_alloc rfl ze77 rfl) fun g6 => ?_
  refine Za ?_
  refine Zx ?_
  refine Zs ?_
  refine Zm ?_
  refine Zm ?_
  refine Seq.pur rfl rfl (p_struct (cs := #[_, _, _]) rfl rfl bs77 rfl rfl) ?_
  refine Seq.new rfl rfl (n_alloc rfl ze77 rfl) fun g8 => ?_
  refine Seq.sto rfl rfl (s_stores (cs' := #[_, _, _]) rfl rfl rfl sz77 rfl (Nat.le_of_ble_eq_true rfl) rfl) ?_
  refine Zx ?_
  refine DC.seq ?_
  refine Zs ?_
  refine Zm ?_
  refine Zn Tryz.underlying44 ?_
  refine Zm ?_
  refine Zx ?_
  refine DC.block ?_
  refine DC.own (fun w hw => own_nil (t := 44) (m := 1) hw) ?_
  refine DC.loop (ι := PaI) (fun j => j.i ≤ S.length ∧ j.pv.length = cw k S.length j.i ∧ ∀ a b, a < j.i → b < S.length → wantP k a b = true → JJ m S a b)
    (fun j => [(0, .int .i64 k), (1, .slice A S.length c), (2, .map (some gm)), (6, .pointer (some ⟨g6, 0, none⟩)), (8, .pointer (some ⟨g8, 0, none⟩)), (18, .slice A S.length c), (19, .int .i64 S.length), (20, .int .i64 j.i)])
    (fun j => mpc encP gm m :: slc (.slice A S.length c) 3 1 (ints S) :: slc j.v 44 1 j.pv :: blk g8 77 #[.int .i64 k, .slice A S.length c, j.v] :: blk g6 77 #[.int .i64 0, .slice none 0 0, .slice none 0 0] :: rowsC 3 cs) (fun j => S.length - j.i)
    ⟨0, .slice none 0 0, []⟩ ⟨Nat.zero_le _, rfl, fun _ _ h => absurd h (Nat.not_lt_zero _)⟩ ⟨rfl, rfl, rfl, rfl, rfl, rfl, rfl, rfl, trivial⟩ (.cons 3 rfl (.cons 3 rfl (.cons 0 rfl (.cons 0 rfl (.cons 0 rfl (Pick.all _)))))) ?_
  rintro ⟨i, v, pv⟩ ⟨hi, hpv, hJ⟩
  dsimp only at hi hpv hJ ⊢
  refine Zs ?_
  refine Zc ?_
  refine Zx ?_
  refine DC.seq ?_
  refine DC.cond rfl (fun c3 => ?_) (fun c3 => ?_)
  · have hlt : i < S.length := by simpa using c3
    obtain ⟨ad, rfl⟩ := hA (fun e => by rw [e] at hlt; simp at hlt)
    obtain ⟨x, hx⟩ : ∃ x, S[i]? = some x := ⟨_, List.getElem?_eq_getElem hlt⟩
    refine DC.skip ?_
    refine Fin.then ?_
    refine DC.seq ?_
    refine DC.block ?_
    refine Zs ?_
    refine Zm ?_
    refine Seq.pur rfl rfl (p_index1 (ad' := ad.add i) rfl rfl rfl Tryz.underlying44 sz3 (by omega) (by omega) rfl) ?_
    refine Seq.val rfl rfl (v_load rfl rfl ag3 (has_slcI (i := 1) rfl hx (by omega))) ?_
    refine Za ?_
    refine Za ?_
    refine Zx ?_
    refine Zs ?_
    refine Zm ?_
    refine Zn Tryz.underlying44 ?_
    refine Zm ?_
    refine Zx ?_
    refine DC.block ?_
    refine DC.loop (ι := PaI) (fun j => j.i ≤ S.length ∧ j.pv.length = cw k S.length i + (List.range j.i).countP (wantP k i) ∧ ∀ b, b < j.i → wantP k i b = true → JJ m S i b)
      (fun j => [(0, .int .i64 k), (1, .slice (some ad) S.length c), (2, .map (some gm)), (6, .pointer (some ⟨g6, 0, none⟩)), (8, .pointer (some ⟨g8, 0, none⟩)), (9, .int .i64 i), (10, .int .i64 x), (18, .slice (some ad) S.length c), (19, .int .i64 S.length), (20, .int .i64 i), (25, .slice (some ad) S.length c), (26, .int .i64 S.length), (27, .int .i64 j.i)])
      (fun j => mpc encP gm m :: slc (.slice (some ad) S.length c) 3 1 (ints S) :: slc j.v 44 1 j.pv :: blk g8 77 #[.int .i64 k, .slice (some ad) S.length c, j.v] :: blk g6 77 #[.int .i64 0, .slice none 0 0, .slice none 0 0] :: rowsC 3 cs) (fun j => S.length - j.i)
      ⟨0, v, pv⟩ ⟨Nat.zero_le _, by simp [hpv], fun _ h => absurd h (Nat.not_lt_zero _)⟩ ⟨rfl, rfl, rfl, rfl, rfl, rfl, rfl, rfl, rfl, rfl, rfl, rfl, rfl, trivial⟩ (Pick.all _) ?_
    rintro ⟨j, v2, pv2⟩ ⟨hj, hpv2, hJ2⟩
    dsimp only at hj hpv2 hJ2 ⊢
    refine Zs ?_
    refine Zc ?_
    refine Zx ?_
    refine DC.seq ?_
    refine DC.cond rfl (fun c6 => ?_) (fun c6 => ?_)
    · have hjl : j < S.length := by simpa using c6
      obtain ⟨y, hy⟩ : ∃ y, S[j]? = some y := ⟨_, List.getElem?_eq_getElem hjl⟩
      have hb1 := cw_le k S.length i
      have hb2 : i * S.length ≤ 6 * 6 := Nat.mul_le_mul (by omega) (by omega)
      have hb3 := List.countP_le_length (p := wantP k i) (l := List.range j)
      rw [List.length_range] at hb3
      refine DC.skip ?_
      refine Fin.then ?_
      refine DC.seq ?_
      refine DC.block ?_
      refine Zs ?_
      refine Zm ?_
      refine Seq.pur rfl rfl (p_index1 (ad' := ad.add j) rfl rfl rfl Tryz.underlying44 sz3 (by omega) (by omega) rfl) ?_
      refine Seq.val rfl rfl (v_load rfl rfl ag3 (has_slcI (i := 1) rfl hy (by omega))) ?_
      refine Za ?_
      refine Za ?_
      refine Zx ?_
      refine DC.seq ?_
      refine Zs ?_
      refine Zm ?_
      refine Zm ?_
      refine Seq.pur rfl rfl (p_leq rfl rfl rfl) ?_
      refine Zm ?_
      refine Seq.split 35 rfl (fun k8_3 => ?_) (fun k8_3 => ?_)
      · refine Zk ?_
        refine Zk ?_
        refine Zk ?_
        refine Zk ?_
        refine Zk ?_
        refine Zk ?_
        refine Zk ?_
        refine Zk ?_
        refine Zk ?_
        refine Zk ?_
        refine Zt ?_
        refine Zx ?_
        refine DC.cond_t rfl ?_
        refine DC.exit ?_
        refine Fin.exit_then <| Fin.exit_here <| ?_
        refine Fin.then ?_
        refine DC.region ?_
        refine Zp ?_
        refine Zm ?_
        refine Seq.nil ?_
        have hno : wantP k i j = false := by simp at k8_3; simp [wantP]; omega
        refine Fin.again ⟨j + 1, v2, pv2⟩ (by dsimp only; omega) ⟨by dsimp only; omega, by dsimp only; rw [cp_succ, hno]; simpa using hpv2, fun b hb hw => ?_⟩ ⟨rfl, rfl, rfl, rfl, rfl, rfl, rfl, rfl, rfl, rfl, rfl, rfl, rfl, trivial⟩ (Pick.all _)
        rcases Nat.lt_succ_iff_lt_or_eq.1 hb with hb | rfl
        · exact hJ2 b hb hw
        · rw [hno] at hw; cases hw
      · refine Zm ?_
        refine Seq.pur rfl rfl (p_eql rfl rfl rfl) ?_
        refine Zm ?_
        refine Seq.split 38 rfl (fun k8_6 => ?_) (fun k8_6 => ?_)
        · refine Zm ?_
          refine Seq.pur rfl rfl (p_geq rfl rfl rfl) ?_
          refine Zm ?_
          refine Seq.split 41 rfl (fun k8_9 => ?_) (fun k8_9 => ?_)
          · refine Zk ?_
            refine Zk ?_
            refine Zt ?_
            refine Zt ?_
            refine Zg ?_
            refine Zx ?_
            refine DC.cond_t rfl ?_
            refine DC.exit ?_
            refine Fin.exit_then <| Fin.exit_here <| ?_
            refine Fin.then ?_
            refine DC.region ?_
            refine Zp ?_
            refine Zm ?_
            refine Seq.nil ?_
            have hno : wantP k i j = false := by simp at k8_3 k8_6 k8_9; simp [wantP, k8_6]; omega
            refine Fin.again ⟨j + 1, v2, pv2⟩ (by dsimp only; omega) ⟨by dsimp only; omega, by dsimp only; rw [cp_succ, hno]; simpa using hpv2, fun b hb hw => ?_⟩ ⟨rfl, rfl, rfl, rfl, rfl, rfl, rfl, rfl, rfl, rfl, rfl, rfl, rfl, trivial⟩ (Pick.all _)
            rcases Nat.lt_succ_iff_lt_or_eq.1 hb with hb | rfl
            · exact hJ2 b hb hw
            · rw [hno] at hw; cases hw
          · refine Zm ?_
            refine Zc ?_
            refine Zg ?_
            refine Zt ?_
            refine Zg ?_
            refine Zx ?_
            refine DC.cond rfl (fun c8 => ?_) (fun c8 => ?_)
            · refine DC.exit ?_
              refine Fin.exit_then <| Fin.exit_here <| ?_
              refine Fin.then ?_
              refine DC.region ?_
              refine Zp ?_
              refine Zm ?_
              refine Seq.nil ?_
              have hno : wantP k i j = false := by simp at k8_3 k8_6 k8_9 c8; simp [wantP, k8_6]; omega
              refine Fin.again ⟨j + 1, v2, pv2⟩ (by dsimp only; omega) ⟨by dsimp only; omega, by dsimp only; rw [cp_succ, hno]; simpa using hpv2, fun b hb hw => ?_⟩ ⟨rfl, rfl, rfl, rfl, rfl, rfl, rfl, rfl, rfl, rfl, rfl, rfl, rfl, trivial⟩ (Pick.all _)
              rcases Nat.lt_succ_iff_lt_or_eq.1 hb with hb | rfl
              · exact hJ2 b hb hw
              · rw [hno] at hw; cases hw
            · refine DC.skip ?_
              refine Fin.then ?_
              refine DC.seq ?_
              have hyes : wantP k i j = true := by
                first
                | (simp at k8_3 k8_6 k8_9 c8; simp [wantP]; omega)
                | (simp at k8_3 k8_6; simp [wantP, k8_6]; omega)
              refine DC.region ?_
              refine Zm ?_
              refine Zm ?_
              refine Zm ?_
              refine Seq.gen rfl rfl (g_call en162 rfl rfl rfl (Lc := mpc encP gm m :: ([slc (.slice (some ad) S.length c) 3 1 (ints S), slc v2 44 1 pv2, blk g8 77 #[.int .i64 k, .slice (some ad) S.length c, v2], blk g6 77 #[.int .i64 0, .slice none 0 0, .slice none 0 0]] ++ rowsC 3 cs)) (F := []) (by rw [List.append_nil]; exact .refl _) (fun k hk => hk) (fun w' hw => joined_calls hw.self hm hs)) ?_
              rintro _ _ ⟨_, ⟨rfl, A', l', c', rfl⟩, rfl⟩
              rw [List.append_nil]
              simp only [List.cons_append, List.nil_append]
              refine Zm ?_
              refine Ze ?_
              refine Ze ?_
              refine Za ?_
              refine Za ?_
              refine Zx ?_
              refine DC.seq ?_
              refine Zs ?_
              refine Zm ?_
              refine Seq.pur rfl rfl (p_not rfl rfl) ?_
              refine Zx ?_
              refine DC.cond rfl (fun c10 => ?_) (fun c10 => ?_)
              · refine Zs ?_
                refine Seq.pur rfl rfl (p_struct (cs := #[_, _, _]) rfl rfl bs77 rfl rfl) ?_
                refine Seq.sto rfl rfl (s_stores (cs' := #[_, _, _]) rfl rfl rfl sz77 rfl (Nat.le_of_ble_eq_true rfl) rfl) ?_
                refine Za ?_
                refine Zx ?_
                refine DC.ret ?_
                refine Fin.ret_then <| Fin.ret_block <| Fin.ret_then <| Fin.ret_then <| Fin.ret_block <| Fin.ret_block <| Fin.ret_then <| Fin.ret_then <| Fin.ret_block <| Fin.ret_then <| ?_
                refine Fin.weak (E' := [(6, .pointer (some ⟨g6, 0, none⟩)), (7, .bool false)]) (L' := [blk g6 77 #[.int .i64 0, .slice none 0 0, .slice none 0 0]]) ⟨rfl, rfl, trivial⟩ (.cons 4 rfl .nil) ?_
                refine Fin.endct (cs := #[_, _, _]) (.inl rfl) rfl rfl rfl ag77 sz77 ?_
                refine ⟨[], fun w hw => hw.sub (List.nil_sublist _), rfl, _, _, _, _, _, _, _, false, rfl, ?_⟩
                simp only [Bool.false_eq_true, false_iff]
                rintro ⟨h1, _⟩
                have h2 := h1 i j hlt hjl hyes x y hx hy
                rw [h2] at c10
                simp at c10
              · refine DC.skip ?_
                refine Fin.then ?_
                refine DC.region ?_
                refine Zf fi77_2 ?_
                refine Zl ag25 ?_
                refine Zm ?_
                refine Seq.new rfl rfl (n_slit (cs := #[_]) rfl rfl Tryz.underlying25 sz44 ze44 rfl (by decide) (by decide) rfl rfl) fun g60 => ?_
                refine Seq.gen rfl rfl (g_append rfl rfl rfl Tryz.underlying25 sz44 by44 ze44 rfl (by decide) (by decide) (news := [.slice A' l' c']) (k := 1) (fun w hw => hw.perm (perm_eraseIdx (i := 3) rfl).symm) (.inl ⟨_, _, rfl, hass_blk rfl⟩) rfl (fun u hu => by rw [List.mem_singleton.1 hu]; rfl) (by simp; omega)) ?_
                rintro v61 _ rfl
                simp only [List.eraseIdx_cons_succ, List.eraseIdx_cons_zero]
                refine Seq.shape (t := 44) (m := 1) (vs := pv2 ++ [.slice A' l' c']) 0 rfl ?_
                rintro ⟨A61, l61, c61, rfl⟩
                refine Zf fi77_2 ?_
                refine Seq.sto rfl rfl (s_store (cs' := #[_, _, _]) rfl rfl rfl sz25 rfl (Nat.le_of_ble_eq_true rfl) rfl) ?_
                refine Seq.nil ?_
                refine Fin.inBlock ?_
                refine Fin.then ?_
                refine DC.region ?_
                refine Zp ?_
                refine Zm ?_
                refine Seq.nil ?_
                have hjj : JJ m S i j := fun x' y' hx' hy' => by
                  rw [hx] at hx'; rw [hy] at hy'; cases hx'; cases hy'
                  simpa using c10
                refine Fin.again ⟨j + 1, .slice A61 l61 c61, pv2 ++ [.slice A' l' c']⟩ (by dsimp only; omega) ⟨by dsimp only; omega, by dsimp only; rw [cp_succ, hyes, List.length_append, hpv2]; simp; omega, fun b hb hw => ?_⟩ ⟨rfl, rfl, rfl, rfl, rfl, rfl, rfl, rfl, rfl, rfl, rfl, rfl, rfl, trivial⟩ (.cons 2 rfl (.cons 2 rfl (.cons 0 rfl (.cons 1 rfl (.cons 1 rfl (pick_tail _ _))))))
                rcases Nat.lt_succ_iff_lt_or_eq.1 hb with hb | rfl
                · exact hJ2 b hb hw
                · exact hjj
        · refine Zk ?_
          refine Zk ?_
          refine Zk ?_
          refine Zk ?_
          refine Zk ?_
          refine Zk ?_
          refine Zg ?_
          refine Zg ?_
          refine Zx ?_
          refine DC.cond_f rfl ?_
          refine DC.skip ?_
          refine Fin.then ?_
          refine DC.seq ?_
          have hyes : wantP k i j = true := by
            first
            | (simp at k8_3 k8_6 k8_9 c8; simp [wantP]; omega)
            | (simp at k8_3 k8_6; simp [wantP, k8_6]; omega)
          refine DC.region ?_
          refine Zm ?_
          refine Zm ?_
          refine Zm ?_
          refine Seq.gen rfl rfl (g_call en162 rfl rfl rfl (Lc := mpc encP gm m :: ([slc (.slice (some ad) S.length c) 3 1 (ints S), slc v2 44 1 pv2, blk g8 77 #[.int .i64 k, .slice (some ad) S.length c, v2], blk g6 77 #[.int .i64 0, .slice none 0 0, .slice none 0 0]] ++ rowsC 3 cs)) (F := []) (by rw [List.append_nil]; exact .refl _) (fun k hk => hk) (fun w' hw => joined_calls hw.self hm hs)) ?_
          rintro _ _ ⟨_, ⟨rfl, A', l', c', rfl⟩, rfl⟩
          rw [List.append_nil]
          simp only [List.cons_append, List.nil_append]
          refine Zm ?_
          refine Ze ?_
          refine Ze ?_
          refine Za ?_
          refine Za ?_
          refine Zx ?_
          refine DC.seq ?_
          refine Zs ?_
          refine Zm ?_
          refine Seq.pur rfl rfl (p_not rfl rfl) ?_
          refine Zx ?_
          refine DC.cond rfl (fun c10 => ?_) (fun c10 => ?_)
          · refine Zs ?_
            refine Seq.pur rfl rfl (p_struct (cs := #[_, _, _]) rfl rfl bs77 rfl rfl) ?_
            refine Seq.sto rfl rfl (s_stores (cs' := #[_, _, _]) rfl rfl rfl sz77 rfl (Nat.le_of_ble_eq_true rfl) rfl) ?_
            refine Za ?_
            refine Zx ?_
            refine DC.ret ?_
            refine Fin.ret_then <| Fin.ret_block <| Fin.ret_then <| Fin.ret_then <| Fin.ret_block <| Fin.ret_block <| Fin.ret_then <| Fin.ret_then <| Fin.ret_block <| Fin.ret_then <| ?_
            refine Fin.weak (E' := [(6, .pointer (some ⟨g6, 0, none⟩)), (7, .bool false)]) (L' := [blk g6 77 #[.int .i64 0, .slice none 0 0, .slice none 0 0]]) ⟨rfl, rfl, trivial⟩ (.cons 4 rfl .nil) ?_
            refine Fin.endct (cs := #[_, _, _]) (.inl rfl) rfl rfl rfl ag77 sz77 ?_
            refine ⟨[], fun w hw => hw.sub (List.nil_sublist _), rfl, _, _, _, _, _, _, _, false, rfl, ?_⟩
            simp only [Bool.false_eq_true, false_iff]
            rintro ⟨h1, _⟩
            have h2 := h1 i j hlt hjl hyes x y hx hy
            rw [h2] at c10
            simp at c10
          · refine DC.skip ?_
            refine Fin.then ?_
            refine DC.region ?_
            refine Zf fi77_2 ?_
            refine Zl ag25 ?_
            refine Zm ?_
            refine Seq.new rfl rfl (n_slit (cs := #[_]) rfl rfl Tryz.underlying25 sz44 ze44 rfl (by decide) (by decide) rfl rfl) fun g60 => ?_
            refine Seq.gen rfl rfl (g_append rfl rfl rfl Tryz.underlying25 sz44 by44 ze44 rfl (by decide) (by decide) (news := [.slice A' l' c']) (k := 1) (fun w hw => hw.perm (perm_eraseIdx (i := 3) rfl).symm) (.inl ⟨_, _, rfl, hass_blk rfl⟩) rfl (fun u hu => by rw [List.mem_singleton.1 hu]; rfl) (by simp; omega)) ?_
            rintro v61 _ rfl
            simp only [List.eraseIdx_cons_succ, List.eraseIdx_cons_zero]
            refine Seq.shape (t := 44) (m := 1) (vs := pv2 ++ [.slice A' l' c']) 0 rfl ?_
            rintro ⟨A61, l61, c61, rfl⟩
            refine Zf fi77_2 ?_
            refine Seq.sto rfl rfl (s_store (cs' := #[_, _, _]) rfl rfl rfl sz25 rfl (Nat.le_of_ble_eq_true rfl) rfl) ?_
            refine Seq.nil ?_
            refine Fin.inBlock ?_
            refine Fin.then ?_
            refine DC.region ?_
            refine Zp ?_
            refine Zm ?_
            refine Seq.nil ?_
            have hjj : JJ m S i j := fun x' y' hx' hy' => by
              rw [hx] at hx'; rw [hy] at hy'; cases hx'; cases hy'
              simpa using c10
            refine Fin.again ⟨j + 1, .slice A61 l61 c61, pv2 ++ [.slice A' l' c']⟩ (by dsimp only; omega) ⟨by dsimp only; omega, by dsimp only; rw [cp_succ, hyes, List.length_append, hpv2]; simp; omega, fun b hb hw => ?_⟩ ⟨rfl, rfl, rfl, rfl, rfl, rfl, rfl, rfl, rfl, rfl, rfl, rfl, rfl, trivial⟩ (.cons 2 rfl (.cons 2 rfl (.cons 0 rfl (.cons 1 rfl (.cons 1 rfl (pick_tail _ _))))))
            rcases Nat.lt_succ_iff_lt_or_eq.1 hb with hb | rfl
            · exact hJ2 b hb hw
            · exact hjj
    · refine DC.exit ?_
      refine Fin.exit_then <| Fin.exit_then <| Fin.exit_here <| ?_
      refine Fin.inBlock ?_
      refine Fin.then ?_
      refine DC.region ?_
      refine Zp ?_
      refine Zm ?_
      refine Seq.nil ?_
      have hje : j = S.length := by simp at c6; omega
      subst hje
      refine Fin.again ⟨i + 1, v2, pv2⟩ (by dsimp only; omega) ⟨by dsimp only; omega, hpv2, fun a b ha hb hw => ?_⟩ ⟨rfl, rfl, rfl, rfl, rfl, rfl, rfl, rfl, trivial⟩ (Pick.all _)
      rcases Nat.lt_succ_iff_lt_or_eq.1 ha with ha | rfl
      · exact hJ a b ha hb hw
      · exact hJ2 b hb hw
  · refine DC.exit ?_
    refine Fin.exit_then <| Fin.exit_then <| Fin.exit_here <| ?_
    refine Fin.then ?_
    refine DC.seq ?_
    refine DC.seq ?_
    have hie : i = S.length := by simp at c3; omega
    subst hie
    have hb1 := cw_le k S.length S.length
    have hb2 : S.length * S.length ≤ 6 * 6 := Nat.mul_le_mul (by omega) (by omega)
    refine DC.slcv (i := 2) rfl ?_
    rintro Av cv rfl hAv
    refine DC.region ?_
    refine Zf fi77_2 ?_
    refine Zl ag25 ?_
    refine Zn Tryz.underlying25 ?_
    refine Zm ?_
    refine Seq.val rfl rfl (v_lenMap 0 rfl rfl rfl Tryz.underlying205) ?_
    refine Seq.pur rfl rfl (p_neq rfl rfl rfl) ?_
    refine Zx ?_
    refine DC.cond rfl (fun c15 => ?_) (fun c15 => ?_)
    · refine Zs ?_
      refine Seq.pur rfl rfl (p_struct (cs := #[_, _, _]) rfl rfl bs77 rfl rfl) ?_
      refine Seq.sto rfl rfl (s_stores (cs' := #[_, _, _]) rfl rfl rfl sz77 rfl (Nat.le_of_ble_eq_true rfl) rfl) ?_
      refine Za ?_
      refine Zx ?_
      refine DC.ret ?_
      refine Fin.ret_then <| ?_
      refine Fin.weak (E' := [(6, .pointer (some ⟨g6, 0, none⟩)), (7, .bool false)]) (L' := [blk g6 77 #[.int .i64 0, .slice none 0 0, .slice none 0 0]]) ⟨rfl, rfl, trivial⟩ (.cons 4 rfl .nil) ?_
      refine Fin.endct (cs := #[_, _, _]) (.inl rfl) rfl rfl rfl ag77 sz77 ?_
      refine ⟨[], fun w hw => hw.sub (List.nil_sublist _), rfl, _, _, _, _, _, _, _, false, rfl, ?_⟩
      simp only [Bool.false_eq_true, false_iff]
      rintro ⟨_, h2⟩
      simp at c15
      omega
    · refine DC.skip ?_
      refine Fin.then ?_
      refine Zs ?_
      refine Seq.val rfl rfl (v_loads (vs := [_, _, _]) rfl rfl ag77 sz77 rfl (hass_blk rfl)) ?_
      refine Seq.sto rfl rfl (s_stores (cs' := #[_, _, _]) rfl rfl rfl sz77 rfl (Nat.le_of_ble_eq_true rfl) rfl) ?_
      refine Za ?_
      refine Zx ?_
      refine DC.ret ?_
      refine Fin.weak (E' := [(6, .pointer (some ⟨g6, 0, none⟩)), (7, .bool true)]) (L' := [blk g6 77 #[.int .i64 k, .slice A S.length c, .slice Av pv.length cv]]) ⟨rfl, rfl, trivial⟩ (.cons 4 rfl .nil) ?_
      refine Fin.endct (cs := #[_, _, _]) (.inl rfl) rfl rfl rfl ag77 sz77 ?_
      refine ⟨[], fun w hw => hw.sub (List.nil_sublist _), rfl, _, _, _, _, _, _, _, true, rfl, ?_⟩
      simp only [true_iff]
      exact ⟨fun i j hi hj hw => hJ i j hi hj hw, by simp at c15; omega⟩
end Go.Fl

set_option linter.unusedVariables false
set_option linter.unusedSimpArgs false
set_option maxRecDepth 100000
namespace Go.Fl
open Go Go.Proofs
open Classical
theorem lk_some {κ : Type} [DecidableEq κ] (m : List (κ × Value)) (q : κ) : (lkM m q).isSome = decide (q ∈ m.map (·.1)) := by
  cases h : lkM m q with
  | none => simpa using lkM_none h
  | some v =>
    have : q ∈ m.map (·.1) := List.mem_map.2 ⟨_, lkM_mem h, rfl⟩
    simp only [Option.isSome_some]
    exact (decide_eq_true this).symm
structure ReI where
  i : Nat
  m : List (Pr × Value)
/-- The map from the ends of the chains, of the first i. -/
structure MapE (E : List Pr) (cs : RL) (i : Nat) (m : List (Pr × Value)) : Prop where
  keys : m.map (·.1) = E.take i
  nd : (E.take i).Nodup
  ne : ∀ p, p ∈ E.take i → p.1 ≠ p.2
  row : MapR m cs
theorem MapE.next {E : List Pr} {cs : RL} {i : Nat} {m : List (Pr × Value)} (h : MapE E cs i m) {q : Pr} (hq : E[i]? = some q) (hno : q ∉ m.map (·.1)) (hne : q.1 ≠ q.2) {p : Value × List Int} (hp : p ∈ cs) : MapE E cs (i + 1) (putM q p.1 m) := by
  have hk : (putM q p.1 m).map (·.1) = m.map (·.1) ++ [q] := by
    rw [putM_keys, lk_some, if_neg (by simpa using hno)]
  have ht : E.take (i + 1) = E.take i ++ [q] := by rw [List.take_add_one, hq]; rfl
  refine ⟨by rw [hk, ht, h.keys], ?_, ?_, ?_⟩
  · rw [ht, List.nodup_append]
    refine ⟨h.nd, by simp, fun a ha b hb e => ?_⟩
    simp at hb; subst hb; subst e
    rw [← h.keys] at ha
    exact hno ha
  · intro x hx
    rw [ht] at hx
    rcases List.mem_append.1 hx with hx | hx
    · exact h.ne x hx
    · simp at hx; subst hx; exact hne
  · intro x v hv
    rw [lkM_put] at hv
    split at hv
    · cases hv; exact ⟨p, hp, rfl⟩
    · exact h.row x v hv
theorem endsU_len (es : List Pr) (k : Nat) : (endsU es k).length = (selU es k).length := by simp [endsU]
theorem jj_iff {m : List (Pr × Value)} {E : List Pr} (hlk : ∀ q, (lkM m q).isSome = decide (q ∈ E)) {S : List Int} {i j : Nat} {x y : Int} (hx : S[i]? = some x) (hy : S[j]? = some y) : JJ m S i j ↔ srt x y ∈ E := by
  unfold JJ
  constructor
  · intro h
    have := h x y hx hy
    rw [hlk] at this
    simpa using this
  · intro h x' y' hx' hy'
    rw [hx] at hx'; rw [hy] at hy'; cases hx'; cases hy'
    rw [hlk]; simpa using h
theorem kp5 {EU : List Pr} {B : List Int} {m : List (Pr × Value)} (hg : GoodE EU) (hl : B.length = 5) (hlk : ∀ q, (lkM m q).isSome = decide (q ∈ EU)) (hml : m.length = EU.length) :
    ((∀ i j, i < B.length → j < B.length → wantP 1 i j = true → JJ m B i j) ∧ cw 1 B.length B.length = m.length) ↔ KP EU B 4 := by
  have hc : cw 1 5 5 = 10 := by decide
  have key : (∀ i j, i < B.length → j < B.length → wantP 1 i j = true → JJ m B i j) ↔ ∀ q, q ∈ pairsOf B → q ∈ EU := by
    constructor
    · intro h q hq
      obtain ⟨i, j, x, y, hij, hx, hy, rfl⟩ := mem_pairsOf.1 hq
      exact (jj_iff hlk hx hy).1 (h i j (List.getElem?_eq_some_iff.1 hx).1 (List.getElem?_eq_some_iff.1 hy).1 (by simp [wantP, hij]))
    · intro h i j hi hj hw
      obtain ⟨x, hx⟩ : ∃ x, B[i]? = some x := ⟨_, List.getElem?_eq_getElem hi⟩
      obtain ⟨y, hy⟩ : ∃ y, B[j]? = some y := ⟨_, List.getElem?_eq_getElem hj⟩
      refine (jj_iff hlk hx hy).2 (h _ (mem_pairsOf.2 ⟨i, j, x, y, ?_, hx, hy, rfl⟩))
      simp [wantP] at hw
      exact hw
  rw [key, hl, hc, hml]
  unfold KP
  constructor
  · rintro ⟨h1, h2⟩
    exact ⟨hg, .inl ⟨hl, rfl, h1, h2.symm⟩⟩
  · rintro ⟨_, ⟨_, _, h1, h2⟩ | ⟨_, h, _⟩⟩
    · exact ⟨h1, h2.symm⟩
    · omega
theorem kp33 {EU : List Pr} {B : List Int} {m : List (Pr × Value)} (hg : GoodE EU) (hl : B.length = 6) (hlk : ∀ q, (lkM m q).isSome = decide (q ∈ EU)) (hml : m.length = EU.length) :
    ((∀ i j, i < (sidesOf EU B).length → j < (sidesOf EU B).length → wantP 2 i j = true → JJ m (sidesOf EU B) i j) ∧ cw 2 (sidesOf EU B).length (sidesOf EU B).length = m.length) ↔ KP EU B 3 := by
  have hc : cw 2 6 6 = 9 := by decide
  have hsl : (sidesOf EU B).length = 6 := (sides_perm EU B).length_eq.trans hl
  have key : (∀ i j, i < (sidesOf EU B).length → j < (sidesOf EU B).length → wantP 2 i j = true → JJ m (sidesOf EU B) i j) ↔ ∀ q, q ∈ crossOf (sidesOf EU B) → q ∈ EU := by
    constructor
    · intro h q hq
      obtain ⟨i, j, x, y, hi, hj, hx, hy, rfl⟩ := mem_crossOf.1 hq
      exact (jj_iff hlk hx hy).1 (h i j (List.getElem?_eq_some_iff.1 hx).1 (List.getElem?_eq_some_iff.1 hy).1 (by simp [wantP, hi, hj]; omega))
    · intro h i j hi hj hw
      obtain ⟨x, hx⟩ : ∃ x, (sidesOf EU B)[i]? = some x := ⟨_, List.getElem?_eq_getElem hi⟩
      obtain ⟨y, hy⟩ : ∃ y, (sidesOf EU B)[j]? = some y := ⟨_, List.getElem?_eq_getElem hj⟩
      simp [wantP] at hw
      exact (jj_iff hlk hx hy).2 (h _ (mem_crossOf.2 ⟨i, j, x, y, hw.2.1, hw.2.2, hx, hy, rfl⟩))
  rw [key, hsl, hc, hml]
  unfold KP
  constructor
  · rintro ⟨h1, h2⟩
    exact ⟨hg, .inr ⟨hl, rfl, h1, h2.symm⟩⟩
  · rintro ⟨_, ⟨_, h, _⟩ | ⟨_, _, h1, h2⟩⟩
    · omega
    · exact ⟨h1, h2.symm⟩
theorem Recognise_calls {n : Nat} {es : List Pr} {va : Value} {w : World} (hg : PrV w va es) (hV : Vld n es) :
    Calls Tryz.prog 98 #[.agg #[.int .i64 n, va]] w (Ret w [] fun r M => M = [] ∧ ∃ k0 A0 l0 c0 A1 l1 c1 b, r = .tuple #[.agg #[.int .i64 k0, .slice A0 l0 c0, .slice A1 l1 c1], .bool b, .int .i64 0] ∧ (b = true ↔ KuraOk n es)) := by
  have hg0 := hg
  obtain ⟨A, cap, rfl, hr, hlc, hcm, hle⟩ := hg
  have hfew := hV.few
  have hno : ∀ {L : List Chunk} {w' : World}, Own w [] w' L → Own w [] w' [] := fun hw => hw.sub (List.nil_sublist _)
  refine calls_of (args := [_]) (L := []) Tryz.func98 rfl Tryz.ntmps98 rfl (Own.start _ _) ?_
  refine Zs ?_
  refine Seq.new rfl rfl (n_box rfl rfl rfl) fun g1 => ?_
  refine Seq.new rfl rfl (n_alloc rfl ze77 rfl) fun g2 => ?_
  refine Za ?_
  refine Za ?_
  refine Zx ?_
  refine Zs ?_
  refine Seq.val rfl rfl (v_loads (vs := [_, _]) rfl rfl ag24 sz24 rfl (hass_blk rfl)) ?_
  refine Seq.rel rfl rfl (r_call en125 rfl rfl rfl (fun w' hw => New_calls n es A cap w' (hr.keep0 hw) (by omega))) ?_
  intro v23 L23 hC23
  obtain ⟨_, M, hP, rfl, rfl⟩ := hC23.resolve_left (fun h => h.1 hV)
  simp only [adjL, List.cons_append, List.nil_append]
  refine Zm ?_
  refine Ze ?_
  refine Ze ?_
  refine Za ?_
  refine Za ?_
  refine Zx ?_
  refine DC.seq ?_
  refine Zs ?_
  refine Zm ?_
  refine Seq.pur rfl rfl (p_neq rfl rfl rfl) ?_
  refine Zx ?_
  refine DC.cond rfl (fun c2 => ?_) (fun c2 => ?_)
  · refine Zs ?_
    refine Seq.pur rfl rfl (p_struct (cs := #[_, _, _]) rfl rfl bs77 rfl rfl) ?_
    refine Zm ?_
    refine Seq.sto rfl rfl (s_stores (cs' := #[_, _, _]) rfl rfl rfl sz77 rfl (Nat.le_of_ble_eq_true rfl) rfl) ?_
    refine Za ?_
    refine Za ?_
    refine Zx ?_
    refine DC.ret ?_
    refine Fin.ret_then <| ?_
    refine Fin.endctt (cs := #[_, _, _]) (.inl rfl) rfl rfl rfl rfl ag77 sz77 ?_
    simp at c2
  · refine DC.skip ?_
    refine Fin.then ?_
    refine Zs ?_
    refine Zm ?_
    refine Seq.rel rfl rfl (r_call en126 rfl rfl rfl (fun w' hw => kdegrees_calls (adj_own hw (.cons 0 rfl (.cons 0 rfl (.cons 0 rfl (.cons 0 rfl (.cons 0 rfl .nil))))) hP))) ?_
    intro v32 L32 hC32
    obtain ⟨A', l', c', d, rfl, hD32⟩ : ∃ A' l' c' d, v32 = .tuple #[.slice A' l' c', .int .i64 (d : Nat)] ∧
        ((l' = (brV es n).length ∧ L32 = [slc (.slice A' (brV es n).length c') 3 1 (ints (brV es n))] ∧ ∀ u, u ∈ brV es n → degV es u = d) ∨ (l' = 0 ∧ ¬ ∃ d, ∀ u, u ∈ brV es n → degV es u = d)) := by
      rcases hC32 with ⟨A', c', d, h1, h2, h3⟩ | ⟨h1, _, h3⟩
      · exact ⟨A', _, c', d, h1, .inl ⟨rfl, h2, h3⟩⟩
      · exact ⟨none, 0, 0, 0, h1, .inr ⟨rfl, h3⟩⟩
    clear hC32
    refine Seq.own (M := blk g2 77 #[.int .i64 0, .slice none 0 0, .slice none 0 0] :: blk g1 24 #[.int .i64 n, .slice A es.length cap] :: L32) (fun w hw => (hw.sub (L' := L32 ++ [blk g2 77 #[.int .i64 0, .slice none 0 0, .slice none 0 0], blk g1 24 #[.int .i64 n, .slice A es.length cap]]) ((List.Sublist.refl L32).append (((((List.Sublist.refl _).cons _).cons _).cons _).cons _ |>.cons _))).perm (List.perm_append_comm (l₁ := [_, _]))) ?_
    refine Zm ?_
    refine Ze ?_
    refine Ze ?_
    refine Za ?_
    refine Za ?_
    refine Zx ?_
    refine DC.seq ?_
    refine DC.cut (ι := Bool) (fun b => b = true ↔ ¬ ((l' = 5 ∧ d = 4) ∨ (l' = 6 ∧ d = 3)))
      (fun b => [(1, .pointer (some ⟨g1, 0, none⟩)), (2, .pointer (some ⟨g2, 0, none⟩)), (7, .slice A' l' c'), (8, .int .i64 d), (52, .bool b)])
      (fun _ => blk g2 77 #[.int .i64 0, .slice none 0 0, .slice none 0 0] :: blk g1 24 #[.int .i64 n, .slice A es.length cap] :: L32) ?first5 ?rest5
    case first5 =>
      refine DC.region ?_
      refine Zm ?_
      refine Zn Tryz.underlying44 ?_
      refine Seq.pur rfl rfl (p_eql rfl rfl rfl) ?_
      refine Zm ?_
      refine Seq.split 38 rfl (fun k5_3 => ?_) (fun k5_3 => ?_)
      · refine Zm ?_
        refine Seq.pur rfl rfl (p_eql rfl rfl rfl) ?_
        refine Zt ?_
        refine Seq.pur rfl rfl (p_not rfl rfl) ?_
        refine Zm ?_
        refine Seq.split 43 rfl (fun k5_8 => ?_) (fun k5_8 => ?_)
        · refine Zm ?_
          refine Zn Tryz.underlying44 ?_
          refine Seq.pur rfl rfl (p_eql rfl rfl rfl) ?_
          refine Zm ?_
          refine Seq.split 47 rfl (fun k5_12 => ?_) (fun k5_12 => ?_)
          · refine Zm ?_
            refine Seq.pur rfl rfl (p_eql rfl rfl rfl) ?_
            refine Zt ?_
            refine Seq.pur rfl rfl (p_not rfl rfl) ?_
            refine Zt ?_
            refine Seq.nil ?_
            refine Fin.meet _ ?_ ⟨rfl, rfl, rfl, rfl, rfl, trivial⟩ (Pick.all _)
            simp at *
            omega
          · refine Zk ?_
            refine Zk ?_
            refine Zg ?_
            refine Seq.pur rfl rfl (p_not rfl rfl) ?_
            refine Zt ?_
            refine Seq.nil ?_
            refine Fin.meet _ ?_ ⟨rfl, rfl, rfl, rfl, rfl, trivial⟩ (Pick.all _)
            simp at *
            omega
        · refine Zk ?_
          refine Zk ?_
          refine Zk ?_
          refine Zk ?_
          refine Zk ?_
          refine Zk ?_
          refine Zk ?_
          refine Zk ?_
          refine Zg ?_
          refine Seq.nil ?_
          refine Fin.meet _ ?_ ⟨rfl, rfl, rfl, rfl, rfl, trivial⟩ (Pick.all _)
          simp at *
          omega
      · refine Zk ?_
        refine Zk ?_
        refine Zg ?_
        refine Seq.pur rfl rfl (p_not rfl rfl) ?_
        refine Zm ?_
        refine Zm ?_
        refine Zn Tryz.underlying44 ?_
        refine Seq.pur rfl rfl (p_eql rfl rfl rfl) ?_
        refine Zm ?_
        refine Seq.split 47 rfl (fun k5_12 => ?_) (fun k5_12 => ?_)
        · refine Zm ?_
          refine Seq.pur rfl rfl (p_eql rfl rfl rfl) ?_
          refine Zt ?_
          refine Seq.pur rfl rfl (p_not rfl rfl) ?_
          refine Zt ?_
          refine Seq.nil ?_
          refine Fin.meet _ ?_ ⟨rfl, rfl, rfl, rfl, rfl, trivial⟩ (Pick.all _)
          simp at *
          omega
        · refine Zk ?_
          refine Zk ?_
          refine Zg ?_
          refine Seq.pur rfl rfl (p_not rfl rfl) ?_
          refine Zt ?_
          refine Seq.nil ?_
          refine Fin.meet _ ?_ ⟨rfl, rfl, rfl, rfl, rfl, trivial⟩ (Pick.all _)
          simp at *
          omega
    case rest5 =>
      rintro b5 hb5
      refine DC.cond rfl (fun c5 => ?_) (fun c5 => ?_)
      · refine Zs ?_
        refine Seq.pur rfl rfl (p_struct (cs := #[_, _, _]) rfl rfl bs77 rfl rfl) ?_
        refine Seq.sto rfl rfl (s_stores (cs' := #[_, _, _]) rfl rfl rfl sz77 rfl (Nat.le_of_ble_eq_true rfl) rfl) ?_
        refine Za ?_
        refine Za ?_
        refine Zx ?_
        refine DC.ret ?_
        refine Fin.ret_then <| ?_
        refine Fin.weak (E' := [(2, .pointer (some ⟨g2, 0, none⟩)), (3, .bool false), (4, .int .i64 0)]) (L' := [blk g2 77 #[.int .i64 0, .slice none 0 0, .slice none 0 0]]) ⟨rfl, rfl, rfl, trivial⟩ (.cons 0 rfl .nil) ?_
        refine Fin.endctt (cs := #[_, _, _]) (.inl rfl) rfl rfl rfl rfl ag77 sz77 ?_
        refine ⟨[], fun w hw => hw.sub (List.nil_sublist _), rfl, _, _, _, _, _, _, _, false, rfl, ?_⟩
        simp only [Bool.false_eq_true, false_iff]
        rintro ⟨d', hd', hK⟩
        have h5 := hb5.1 c5
        rcases hD32 with ⟨hl', _, hd⟩ | ⟨_, hno2⟩
        · have hdd : brV es n ≠ [] → d = d' := fun hne => by
            obtain ⟨u, hu⟩ := List.exists_mem_of_ne_nil _ hne
            rw [← hd u hu, hd' u hu]
          rcases hK.2 with ⟨k1, k2, _⟩ | ⟨k1, k2, _⟩
          · have := hdd (fun e => by rw [e] at k1; simp at k1)
            exact h5 (.inl ⟨by omega, by omega⟩)
          · have := hdd (fun e => by rw [e] at k1; simp at k1)
            exact h5 (.inr ⟨by omega, by omega⟩)
        · exact hno2 ⟨d', hd'⟩
      · refine DC.skip ?_
        refine Fin.then ?_
        refine DC.seq ?_
        have hld : (l' = 5 ∧ d = 4) ∨ (l' = 6 ∧ d = 3) := by
          apply Classical.byContradiction
          intro h
          rw [hb5.2 h] at c5; cases c5
        obtain ⟨rfl, rfl, hd⟩ := hD32.resolve_right (fun h => by have := h.1; omega)
        refine DC.region ?_
        refine Seq.val rfl rfl (v_loads (vs := [_, _]) rfl rfl ag24 sz24 rfl (hass_blk rfl)) ?_
        refine Seq.rel rfl rfl (r_call en127 rfl rfl rfl (fun w' hw => Chains_calls (hg0.keep0 hw) hV)) ?_
        rintro _ _ ⟨v9, cs, rfl, hch, rfl⟩
        refine Seq.own (M := slc v9 44 1 (rowsV cs) :: blk g2 77 #[.int .i64 0, .slice none 0 0, .slice none 0 0] :: blk g1 24 #[.int .i64 n, .slice A es.length cap] :: slc (.slice A' (brV es n).length c') 3 1 (ints (brV es n)) :: rowsC 3 cs) (fun w hw => hw.perm (List.Perm.cons _ (List.perm_append_comm (l₁ := [_, _, _]) (l₂ := rowsC 3 cs)))) ?_
        refine Zm ?_
        refine Ze ?_
        refine Ze ?_
        refine Za ?_
        refine Za ?_
        refine Zx ?_
        refine Zs ?_
        refine Seq.rel rfl rfl (r_makeMap (enc := encP) rfl) ?_
        rintro _ _ ⟨gm, rfl, rfl⟩
        simp only [List.cons_append, List.nil_append]
        refine Za ?_
        refine Zx ?_
        refine DC.seq ?_
        refine DC.seq ?_
        obtain ⟨EU, hEU⟩ : ∃ EU, EU = endsU es es.length := ⟨_, rfl⟩
        have hEl : EU.length = cs.length := by rw [hEU, endsU_len, hch.len]
        have hcsl : cs.length ≤ es.length := by rw [hch.len]; exact selU_len _
        have hrows : ∀ p, p ∈ cs → p.2.length ≤ 1000000000 := fun p hp => by
          obtain ⟨j, hj⟩ := List.mem_iff_getElem?.1 hp
          obtain ⟨e, he⟩ : ∃ e, (selU es es.length)[j]? = some e := ⟨_, List.getElem?_eq_getElem (by rw [← hch.len]; exact (List.getElem?_eq_some_iff.1 hj).1)⟩
          have := (hch.at' j e p he hj).2.2
          omega
        refine DC.slcv (i := 1) (v := v9) rfl ?_
        rintro A9 c9 rfl hA9
        rw [rowsV_length]
        refine DC.region ?_
        refine Zm ?_
        refine Zn Tryz.underlying25 ?_
        refine Zm ?_
        refine Zx ?_
        refine DC.block ?_
        refine DC.loop (ι := ReI) (fun j => j.i ≤ cs.length ∧ MapE EU cs j.i j.m)
          (fun j => [(2, .pointer (some ⟨g2, 0, none⟩)), (7, .slice A' (brV es n).length c'), (8, .int .i64 d), (11, .map (some gm)), (60, .slice A9 cs.length c9), (61, .int .i64 cs.length), (62, .int .i64 j.i)])
          (fun j => mpc encP gm j.m :: slc (.slice A9 cs.length c9) 44 1 (rowsV cs) :: blk g2 77 #[.int .i64 0, .slice none 0 0, .slice none 0 0] :: slc (.slice A' (brV es n).length c') 3 1 (ints (brV es n)) :: rowsC 3 cs) (fun j => cs.length - j.i) ⟨0, []⟩
          ⟨Nat.zero_le _, rfl, by simp, by simp, fun _ _ h => by cases h⟩ ⟨rfl, rfl, rfl, rfl, rfl, rfl, rfl, trivial⟩ (.cons 0 rfl (.cons 0 rfl (.cons 0 rfl (.cons 1 rfl (pick_tail _ _))))) ?_
        rintro ⟨i, m⟩ ⟨hi, hmE⟩
        dsimp only at hi hmE ⊢
        refine Zs ?_
        refine Zc ?_
        refine Zx ?_
        refine DC.seq ?_
        refine DC.cond rfl (fun c10 => ?_) (fun c10 => ?_)
        · have hlt : i < cs.length := by simpa using c10
          obtain ⟨p, hp⟩ : ∃ p, cs[i]? = some p := ⟨_, List.getElem?_eq_getElem hlt⟩
          obtain ⟨e, he⟩ : ∃ e, (selU es es.length)[i]? = some e := ⟨_, List.getElem?_eq_getElem (by rw [← hch.len]; exact hlt)⟩
          obtain ⟨⟨p0, q0, hp0, hq0, hw1, hw2⟩, hpl, hpu⟩ := hch.at' i e p he hp
          have hEUi : EU[i]? = some (srt (endA es e) (endB es e)) := by rw [hEU]; unfold endsU; rw [List.getElem?_map, he]; rfl
          obtain ⟨ad9, rfl⟩ := hA9 (fun e => by have := congrArg List.length e; simp at this; rw [this] at hlt; simp at hlt)
          refine DC.skip ?_
          refine Fin.then ?_
          refine DC.seq ?_
          refine DC.block ?_
          refine Zs ?_
          refine Seq.pur rfl rfl (p_index1 (ad' := ad9.add i) rfl rfl rfl Tryz.underlying25 sz44 (by omega) (by omega) rfl) ?_
          refine Seq.val rfl rfl (v_load rfl rfl ag44 (has_slcV (i := 1) (q := p.1) rfl (by simp [rowsV, hp]))) ?_
          refine Za ?_
          refine Zx ?_
          refine DC.seq ?_
          refine DC.slcs (v := p.1) (i := i + 4) (xs := p.2) (t := 3) (by simp [rowsC, hp]) (by omega) ?_
          rintro A3 c3 hp1 hA3
          obtain ⟨ad3, rfl⟩ := hA3 (fun e => by rw [e] at hp0; simp at hp0)
          have hrow : ∀ {F : List Chunk} (a b c d : Chunk), (a :: b :: c :: d :: rowsC 3 cs)[i + 4]? = some (slc (.slice (some ad3) p.2.length c3) 3 1 (ints p.2)) := fun a b c d => by rw [← hp1]; simp [rowsC, hp]
          rw [hp1]
          refine DC.flow (cl := [.q, .q, .v, .q, .q, .q, .q, .q, .v, .q, .n, .g]) (A := [0, 1, 3, 0, 0, 16, 48, 120, 248, 511, 0, 2047]) (order := [0, 1, 2, 3, 4, 5, 6, 7, 8, 9, 10, 11]) [] mixed (by kernel_rfl) (fun w hw => hw.pick .nil) ?_
          refine Ym ?_
          refine Flow.pur rfl rfl rfl (p_index1 (ad' := ad3.add 0) rfl rfl rfl Tryz.underlying44 sz3 (by omega) (by omega) rfl) ?_
          refine Flow.valS rfl rfl rfl rfl (v_load rfl rfl ag3 (has_slcI (t := 3) (i := i + 4) (l := p.2.length) (c := c3) (hrow (F := []) _ _ _ _) hp0 (by omega))) ?_
          refine Ym ?_
          refine Ym ?_
          refine Flow.pur rfl rfl rfl (p_len rfl rfl Tryz.underlying44) ?_
          refine Flow.pur rfl rfl rfl (p_sub rfl rfl rfl (by omega)) ?_
          refine Flow.pur rfl rfl rfl (p_index1 (ad' := ad3.add (p.2.length - 1)) rfl rfl rfl Tryz.underlying44 sz3 (by omega) (by omega) (by rw [show ((p.2.length : Int) - 1).toNat = p.2.length - 1 by omega])) ?_
          refine Flow.valS rfl rfl rfl rfl (v_load rfl rfl ag3 (has_slcI (t := 3) (i := i + 4) (l := p.2.length) (c := c3) (hrow (F := []) _ _ _ _) hq0 (by omega))) ?_
          refine Flow.pur rfl rfl rfl (p_array (cs := #[.int .i64 p0, .int .i64 q0]) rfl rfl Tryz.underlying35 sz3 ze35 rfl rfl rfl) ?_
          refine Flow.new' rfl rfl rfl rfl (n_alloc rfl ze35 rfl) fun g14 => ?_
          refine Flow.sto (V := (blk g14 35 #[.int .i64 0, .int .i64 0] :: mpc encP gm m :: slc (.slice (some ad9) cs.length c9) 44 1 (rowsV cs) :: blk g2 77 #[.int .i64 0, .slice none 0 0, .slice none 0 0] :: slc (.slice A' (brV es n).length c') 3 1 (ints (brV es n)) :: rowsC 3 cs)) rfl rfl rfl rfl rfl (s_stores (cs' := #[_, _]) rfl rfl rfl sz35 rfl (Nat.le_of_ble_eq_true rfl) rfl) (fun w hw => hw.pick (.nil)) ?_
          refine Flow.end rfl ?_
          simp only [List.map_cons, List.map_nil, List.nil_append, List.cons_append, List.append_nil]
          refine Fin.then ?_
          refine DC.seq ?_
          refine Zs ?_
          refine Zm ?_
          refine Seq.val rfl rfl (v_loads (vs := [_, _]) rfl rfl ag35 sz35 rfl (hass_blk rfl)) ?_
          refine Seq.val rfl rfl (v_lookup (k := (p0, q0)) (ok := true) 1 rfl keyArr rfl rfl rfl Tryz.underlying205 ze44 rfl) ?_
          refine Zm ?_
          refine Ze ?_
          refine Ze ?_
          refine Za ?_
          refine Za ?_
          refine Zx ?_
          refine Zs ?_
          refine Zm ?_
          refine Zm ?_
          refine Seq.split 83 rfl (fun k14_1 => ?_) (fun k14_1 => ?_)
          · refine Zk ?_
            refine Zk ?_
            refine Zk ?_
            refine Zk ?_
            refine Zk ?_
            refine Zt ?_
            refine Zx ?_
            refine DC.cond_t rfl ?_
            refine Zs ?_
            refine Seq.pur rfl rfl (p_struct (cs := #[_, _, _]) rfl rfl bs77 rfl rfl) ?_
            refine Seq.sto rfl rfl (s_stores (cs' := #[_, _, _]) rfl rfl rfl sz77 rfl (Nat.le_of_ble_eq_true rfl) rfl) ?_
            refine Za ?_
            refine Za ?_
            refine Zx ?_
            refine DC.ret ?_
            refine Fin.ret_then <| Fin.ret_block <| Fin.ret_then <| Fin.ret_then <| Fin.ret_block <| Fin.ret_then <| ?_
            refine Fin.weak (E' := [(2, .pointer (some ⟨g2, 0, none⟩)), (3, .bool false), (4, .int .i64 0)]) (L' := [blk g2 77 #[.int .i64 0, .slice none 0 0, .slice none 0 0]]) ⟨rfl, rfl, rfl, trivial⟩ (.cons 3 rfl .nil) ?_
            refine Fin.endctt (cs := #[_, _, _]) (.inl rfl) rfl rfl rfl rfl ag77 sz77 ?_
            refine ⟨[], fun w hw => hw.sub (List.nil_sublist _), rfl, _, _, _, _, _, _, _, false, rfl, ?_⟩
            simp only [Bool.false_eq_true, false_iff]
            rintro ⟨d', hd', hK, _⟩
            rw [← hEU] at hK
            have hin : (p0, q0) ∈ m.map (·.1) := by rw [lk_some] at k14_1; simpa using k14_1
            rw [hmE.keys] at hin
            by_cases hab : endA es e = endB es e
            · exact hK.2 _ (List.mem_of_getElem? hEUi) (by unfold srt; simp only; omega)
            · obtain ⟨e1, e2⟩ := hw2 hab
              have hpq : (p0, q0) = srt (endA es e) (endB es e) := by unfold srt; rw [e1, e2]
              rw [hpq] at hin
              obtain ⟨j, hj⟩ := List.mem_iff_getElem?.1 hin
              rw [List.getElem?_take] at hj
              split at hj
              · rename_i hji
                have := (List.getElem?_inj (by have := (List.getElem?_eq_some_iff.1 hj).1; exact this) hK.1).1 (hj.trans hEUi.symm)
                omega
              · cases hj
          · refine Seq.pur rfl rfl (p_indexA (ad' := ⟨g14, 0, none⟩) rfl rfl rfl Tryz.underlying35 sz3 (by omega) (by omega) (add_at0 _ _)) ?_
            refine Zl ag3 ?_
            refine Seq.pur rfl rfl (p_indexA (ad' := ⟨g14, 1, none⟩) rfl rfl rfl Tryz.underlying35 sz3 (by omega) (by omega) (add_at0 _ _)) ?_
            refine Zl ag3 ?_
            refine Seq.pur rfl rfl (p_eql rfl rfl rfl) ?_
            refine Zg ?_
            refine Zx ?_
            refine DC.cond rfl (fun c14 => ?_) (fun c14 => ?_)
            · refine Zs ?_
              refine Seq.pur rfl rfl (p_struct (cs := #[_, _, _]) rfl rfl bs77 rfl rfl) ?_
              refine Seq.sto rfl rfl (s_stores (cs' := #[_, _, _]) rfl rfl rfl sz77 rfl (Nat.le_of_ble_eq_true rfl) rfl) ?_
              refine Za ?_
              refine Za ?_
              refine Zx ?_
              refine DC.ret ?_
              refine Fin.ret_then <| Fin.ret_block <| Fin.ret_then <| Fin.ret_then <| Fin.ret_block <| Fin.ret_then <| ?_
              refine Fin.weak (E' := [(2, .pointer (some ⟨g2, 0, none⟩)), (3, .bool false), (4, .int .i64 0)]) (L' := [blk g2 77 #[.int .i64 0, .slice none 0 0, .slice none 0 0]]) ⟨rfl, rfl, rfl, trivial⟩ (.cons 3 rfl .nil) ?_
              refine Fin.endctt (cs := #[_, _, _]) (.inl rfl) rfl rfl rfl rfl ag77 sz77 ?_
              refine ⟨[], fun w hw => hw.sub (List.nil_sublist _), rfl, _, _, _, _, _, _, _, false, rfl, ?_⟩
              simp only [Bool.false_eq_true, false_iff]
              rintro ⟨d', hd', hK, _⟩
              rw [← hEU] at hK
              have hpq : p0 = q0 := by simpa using c14
              refine hK.2 _ (List.mem_of_getElem? hEUi) ?_
              by_cases hab : endA es e = endB es e
              · unfold srt; simp only; omega
              · obtain ⟨e1, e2⟩ := hw2 hab
                unfold srt; simp only; omega
            · refine DC.skip ?_
              refine Fin.then ?_
              have hne : p0 ≠ q0 := by simpa using c14
              have hab : endA es e ≠ endB es e := fun h => hne (hw1 h)
              obtain ⟨e1, e2⟩ := hw2 hab
              have hpq : (p0, q0) = srt (endA es e) (endB es e) := by unfold srt; rw [e1, e2]
              have hnin : (p0, q0) ∉ m.map (·.1) := by rw [lk_some] at k14_1; simpa using k14_1
              refine DC.region ?_
              refine Zm ?_
              refine Seq.val rfl rfl (v_loads (vs := [_, _]) rfl rfl ag35 sz35 rfl (hass_blk rfl)) ?_
              refine Zm ?_
              refine Seq.sto rfl rfl (s_mapUpdate (k := (p0, q0)) 1 rfl keyArr rfl rfl rfl rfl Tryz.underlying205 rfl) ?_
              refine Seq.nil ?_
              refine Fin.inBlock ?_
              refine Fin.then ?_
              refine DC.region ?_
              refine Zp ?_
              refine Zm ?_
              refine Seq.nil ?_
              refine Fin.again ⟨i + 1, putM (p0, q0) (.slice (some ad3) p.2.length c3) m⟩ (by dsimp only; omega) ⟨by dsimp only; omega, ?_⟩ ⟨rfl, rfl, rfl, rfl, rfl, rfl, rfl, trivial⟩ (pick_tail _ _)
              dsimp only
              rw [← hp1]
              exact hmE.next (by rw [hpq]; exact hEUi) hnin hne (List.mem_of_getElem? hp)
        · refine DC.exit ?_
          refine Fin.exit_then <| Fin.exit_then <| Fin.exit_here <| ?_
          refine Fin.then ?_
          refine DC.seq ?_
          refine DC.seq ?_
          have hie : i = cs.length := by simp at c10; omega
          subst hie
          have hke : m.map (·.1) = EU := by rw [hmE.keys, ← hEl, List.take_length]
          have hgood : GoodE EU := by
            have h1 := hmE.nd
            have h2 := hmE.ne
            rw [← hEl, List.take_length] at h1 h2
            exact ⟨h1, h2⟩
          have hml : m.length = EU.length := by rw [← hke, List.length_map]
          have hlk : ∀ q, (lkM m q).isSome = decide (q ∈ EU) := fun q => by rw [lk_some, hke]; congr
          have hiff : KuraOk n es ↔ KP EU (brV es n) d := by
            rw [hEU]
            constructor
            · rintro ⟨d', hd', hK⟩
              have hne : brV es n ≠ [] := fun e => by rw [e] at hld; simp at hld
              obtain ⟨u, hu⟩ := List.exists_mem_of_ne_nil _ hne
              have : d = d' := by rw [← hd u hu, hd' u hu]
              rw [this]; exact hK
            · intro h; exact ⟨d, hd, h⟩
          refine DC.own (M := mpc encP gm m :: slc (.slice A' (brV es n).length c') 3 1 (ints (brV es n)) :: (rowsC 3 cs ++ [blk g2 77 #[.int .i64 0, .slice none 0 0, .slice none 0 0]])) (fun w hw => (hw.sub (L' := mpc encP gm m :: blk g2 77 #[.int .i64 0, .slice none 0 0, .slice none 0 0] :: slc (.slice A' (brV es n).length c') 3 1 (ints (brV es n)) :: rowsC 3 cs) ((List.Sublist.refl _).cons _ |>.cons_cons _)).perm (List.Perm.cons _ (List.perm_append_comm (l₁ := slc (.slice A' (brV es n).length c') 3 1 (ints (brV es n)) :: rowsC 3 cs) (l₂ := [blk g2 77 #[.int .i64 0, .slice none 0 0, .slice none 0 0]])))) ?_
          refine DC.region ?_
          refine Zm ?_
          refine Seq.pur rfl rfl (p_eql rfl rfl rfl) ?_
          refine Zx ?_
          refine DC.cond rfl (fun c18 => ?_) (fun c18 => ?_)
          · refine Zs ?_
            refine Zm ?_
            refine Zm ?_
            refine Seq.gen rfl rfl (g_call en128 rfl rfl rfl (Lc := mpc encP gm m :: slc (.slice A' (brV es n).length c') 3 1 (ints (brV es n)) :: rowsC 3 cs) (F := [blk g2 77 #[.int .i64 0, .slice none 0 0, .slice none 0 0]]) (.refl _) (fun k hk => hk) (fun w' hw => paths_calls (hw.sub (L' := mpc encP gm m :: slc (.slice A' (brV es n).length c') 3 1 (ints (brV es n)) :: rowsC 3 cs) (List.sublist_append_left _ _)).self hmE.row hrows (by omega))) ?_
            rintro _ _ ⟨_, ⟨rfl, k0, A0, l0, c0, A1, l1, c1, bb, rfl, hbb⟩, rfl⟩
            simp only [List.nil_append]
            refine Zm ?_
            refine Ze ?_
            refine Ze ?_
            refine Seq.new rfl rfl (n_alloc rfl ze77 rfl) fun g17 => ?_
            refine Seq.sto rfl rfl (s_stores (cs' := #[_, _, _]) rfl rfl rfl sz77 rfl (Nat.le_of_ble_eq_true rfl) rfl) ?_
            refine Za ?_
            refine Zx ?_
            refine Zs ?_
            refine Seq.val rfl rfl (v_loads (vs := [_, _, _]) rfl rfl ag77 sz77 rfl (hass_blk rfl)) ?_
            refine Zm ?_
            refine Seq.sto rfl rfl (s_stores (cs' := #[_, _, _]) rfl rfl rfl sz77 rfl (Nat.le_of_ble_eq_true rfl) rfl) ?_
            refine Za ?_
            refine Za ?_
            refine Zx ?_
            refine DC.ret ?_
            refine Fin.ret_then <| ?_
            refine Fin.endctt (cs := #[_, _, _]) (.inl rfl) rfl rfl rfl rfl ag77 sz77 ?_
            refine ⟨[], fun w hw => hw.sub (List.nil_sublist _), rfl, _, _, _, _, _, _, _, bb, rfl, ?_⟩
            have hd4 : d = 4 := by simp at c18; omega
            rw [hbb, hiff, hd4]
            exact kp5 hgood (by omega) hlk hml
          · refine DC.skip ?_
            refine Fin.then ?_
            refine Zs ?_
            refine Zm ?_
            refine Zm ?_
            refine Seq.gen rfl rfl (g_call en129 rfl rfl rfl (Lc := mpc encP gm m :: slc (.slice A' (brV es n).length c') 3 1 (ints (brV es n)) :: rowsC 3 cs) (F := [blk g2 77 #[.int .i64 0, .slice none 0 0, .slice none 0 0]]) (.refl _) (fun k hk => hk) (fun w' hw => sides_calls (E := EU) (hw.sub (L' := mpc encP gm m :: slc (.slice A' (brV es n).length c') 3 1 (ints (brV es n)) :: rowsC 3 cs) (List.sublist_append_left _ _)).self hmE.row hrows (by omega) hlk)) ?_
            rintro vs _ ⟨_, rfl, rfl⟩
            have hsl : (sidesOf EU (brV es n)).length = (brV es n).length := (sides_perm _ _).length_eq
            refine Zm ?_
            refine Seq.gen rfl rfl (g_call en128 rfl rfl rfl (Lc := mpc encP gm m :: slc vs 3 1 (ints (sidesOf EU (brV es n))) :: rowsC 3 cs) (F := [blk g2 77 #[.int .i64 0, .slice none 0 0, .slice none 0 0]]) (.refl _) (fun k hk => hk) (fun w' hw => paths_calls (hw.sub (L' := mpc encP gm m :: slc vs 3 1 (ints (sidesOf EU (brV es n))) :: rowsC 3 cs) (List.sublist_append_left _ _)).self hmE.row hrows (by omega))) ?_
            rintro _ _ ⟨_, ⟨rfl, k0, A0, l0, c0, A1, l1, c1, bb, rfl, hbb⟩, rfl⟩
            simp only [List.nil_append]
            refine Zm ?_
            refine Ze ?_
            refine Ze ?_
            refine Seq.new rfl rfl (n_alloc rfl ze77 rfl) fun g19 => ?_
            refine Seq.sto rfl rfl (s_stores (cs' := #[_, _, _]) rfl rfl rfl sz77 rfl (Nat.le_of_ble_eq_true rfl) rfl) ?_
            refine Za ?_
            refine Zx ?_
            refine Zs ?_
            refine Seq.val rfl rfl (v_loads (vs := [_, _, _]) rfl rfl ag77 sz77 rfl (hass_blk rfl)) ?_
            refine Zm ?_
            refine Seq.sto rfl rfl (s_stores (cs' := #[_, _, _]) rfl rfl rfl sz77 rfl (Nat.le_of_ble_eq_true rfl) rfl) ?_
            refine Za ?_
            refine Za ?_
            refine Zx ?_
            refine DC.ret ?_
            refine Fin.endctt (cs := #[_, _, _]) (.inl rfl) rfl rfl rfl rfl ag77 sz77 ?_
            refine ⟨[], fun w hw => hw.sub (List.nil_sublist _), rfl, _, _, _, _, _, _, _, bb, rfl, ?_⟩
            have hd3 : d = 3 := by simp at c18; omega
            rw [hbb, hiff, hd3]
            exact kp33 hgood (by omega) hlk hml
end Go.Fl

set_option maxRecDepth 100000
namespace Go.Proofs
open Go.Shelf Go.RowKit Go.Lib Go.Sort
def Tryz.sortEdge_ren : Go.Shelf.Ren := ⟨fun | 6 => 74 | 15 => 108 | 14 => 107 | 28 => 144 | 29 => 145 | 20 => 136 | 21 => 137 | 22 => 138 | 23 => 139 | 24 => 140 | 25 => 141 | 26 => 142 | 27 => 143 | 46 => 166 | 47 => 167 | 48 => 168 | 49 => 169 | 50 => 170 | 57 => 184 | n => n, fun | 22 => 22 | 24 => 43 | 25 => 142 | 3 => 3 | 39 => 180 | 0 => 0 | 53 => 219 | 55 => 221 | 4 => 4 | 46 => 213 | 45 => 212 | 50 => 195 | 5 => 5 | 9 => 9 | 66 => 239 | 70 => 243 | 76 => 254 | 77 => 112 | n => n, fun n => n⟩
theorem Tryz.sortEdge : Go.Proofs.SlLaysF0.n6 Tryz.prog Tryz.sortEdge_ren := {
  mixed := by kernel_rfl
  f6 := ⟨"slices.SortFunc[[]tangram/api.Edge,tangram/api.Edge]", by decide, Tryz.func74.trans (congrArg some (by kernel_rfl))⟩
  f14 := ⟨"slices.pdqsortCmpFunc[tangram/api.Edge]", by decide, Tryz.func107.trans (congrArg some (by kernel_rfl))⟩
  f15 := Tryz.func108.trans (congrArg some (by kernel_rfl))
  f20 := ⟨"slices.insertionSortCmpFunc[tangram/api.Edge]", by decide, Tryz.func136.trans (congrArg some (by kernel_rfl))⟩
  f21 := ⟨"slices.heapSortCmpFunc[tangram/api.Edge]", by decide, Tryz.func137.trans (congrArg some (by kernel_rfl))⟩
  f22 := ⟨"slices.breakPatternsCmpFunc[tangram/api.Edge]", by decide, Tryz.func138.trans (congrArg some (by kernel_rfl))⟩
  f23 := ⟨"slices.choosePivotCmpFunc[tangram/api.Edge]", by decide, Tryz.func139.trans (congrArg some (by kernel_rfl))⟩
  f24 := ⟨"slices.reverseRangeCmpFunc[tangram/api.Edge]", by decide, Tryz.func140.trans (congrArg some (by kernel_rfl))⟩
  f25 := ⟨"slices.partialInsertionSortCmpFunc[tangram/api.Edge]", by decide, Tryz.func141.trans (congrArg some (by kernel_rfl))⟩
  f26 := ⟨"slices.partitionEqualCmpFunc[tangram/api.Edge]", by decide, Tryz.func142.trans (congrArg some (by kernel_rfl))⟩
  f27 := ⟨"slices.partitionCmpFunc[tangram/api.Edge]", by decide, Tryz.func143.trans (congrArg some (by kernel_rfl))⟩
  f28 := Tryz.func144.trans (congrArg some (by kernel_rfl))
  f29 := Tryz.func145.trans (congrArg some (by kernel_rfl))
  f46 := ⟨"slices.siftDownCmpFunc[tangram/api.Edge]", by decide, Tryz.func166.trans (congrArg some (by kernel_rfl))⟩
  f47 := Tryz.func167.trans (congrArg some (by kernel_rfl))
  f48 := Tryz.func168.trans (congrArg some (by kernel_rfl))
  f49 := ⟨"slices.medianAdjacentCmpFunc[tangram/api.Edge]", by decide, Tryz.func169.trans (congrArg some (by kernel_rfl))⟩
  f50 := ⟨"slices.medianCmpFunc[tangram/api.Edge]", by decide, Tryz.func170.trans (congrArg some (by kernel_rfl))⟩
  f57 := ⟨"slices.order2CmpFunc[tangram/api.Edge]", by decide, Tryz.func184.trans (congrArg some (by kernel_rfl))⟩
  t0 := Tryz.underlying0
  a0 := Tryz.isAgg0
  z0 := Tryz.sizeOf0
  v0 := Tryz.zeroValue0
  t3 := Tryz.underlying3
  a3 := Tryz.isAgg3
  z3 := Tryz.sizeOf3
  v3 := Tryz.zeroValue3
  t4 := Tryz.underlying4
  a4 := Tryz.isAgg4
  z4 := Tryz.sizeOf4
  v4 := Tryz.zeroValue4
  t5 := Tryz.underlying5
  a5 := Tryz.isAgg5
  z5 := Tryz.sizeOf5
  v5 := Tryz.zeroValue5
  t9 := Tryz.underlying9
  a9 := Tryz.isAgg9
  z9 := Tryz.sizeOf9
  v9 := Tryz.zeroValue9
  t22 := Tryz.underlying22
  a22 := Tryz.isAgg22
  z22 := Tryz.sizeOf22
  v22 := Tryz.zeroValue22
  t25 := Tryz.underlying142
  a25 := Tryz.isAgg142
  z25 := Tryz.sizeOf142
  v25 := Tryz.zeroValue142
  t39 := Tryz.underlying180
  a39 := Tryz.isAgg180
  z39 := Tryz.sizeOf180
  v39 := Tryz.zeroValue180
  t45 := Tryz.underlying212
  a45 := Tryz.isAgg212
  z45 := Tryz.sizeOf212
  v45 := Tryz.zeroValue212
  t46 := Tryz.underlying213
  a46 := Tryz.isAgg213
  z46 := Tryz.sizeOf213
  v46 := Tryz.zeroValue213
  t50 := Tryz.underlying195
  a50 := Tryz.isAgg195
  z50 := Tryz.sizeOf195
  v50 := Tryz.zeroValue195
  t53 := Tryz.underlying219
  a53 := Tryz.isAgg219
  z53 := Tryz.sizeOf219
  v53 := Tryz.zeroValue219
  t55 := Tryz.underlying221
  a55 := Tryz.isAgg221
  z55 := Tryz.sizeOf221
  v55 := Tryz.zeroValue221
  t66 := Tryz.underlying239
  a66 := Tryz.isAgg239
  z66 := Tryz.sizeOf239
  v66 := Tryz.zeroValue239
  t70 := Tryz.underlying243
  a70 := Tryz.isAgg243
  z70 := Tryz.sizeOf243
  v70 := Tryz.zeroValue243
  t76 := Tryz.underlying254
  a76 := Tryz.isAgg254
  z76 := Tryz.sizeOf254
  v76 := Tryz.zeroValue254
  t77 := Tryz.underlying112
  a77 := Tryz.isAgg112
  z77 := Tryz.sizeOf112
  v77 := Tryz.zeroValue112 }
def Tryz.cmpInt_ren : Go.Shelf.Ren := ⟨fun | 5 => 156 | 7 => 178 | n => n, fun | 22 => 3 | 3 => 3 | 4 => 4 | n => n, fun n => n⟩
theorem Tryz.cmpInt : Go.Proofs.SlLaysC2.n5 Tryz.prog Tryz.cmpInt_ren := {
  mixed := by kernel_rfl
  f5 := ⟨"cmp.Compare[int]", by decide, Tryz.func156.trans (congrArg some (by kernel_rfl))⟩
  f7 := ⟨"cmp.isNaN[int]", by decide, Tryz.func178.trans (congrArg some (by kernel_rfl))⟩
  t3 := Tryz.underlying3
  a3 := Tryz.isAgg3
  z3 := Tryz.sizeOf3
  v3 := Tryz.zeroValue3
  t4 := Tryz.underlying4
  a4 := Tryz.isAgg4
  z4 := Tryz.sizeOf4
  v4 := Tryz.zeroValue4
  t22 := Tryz.underlying3
  a22 := Tryz.isAgg3
  z22 := Tryz.sizeOf3
  v22 := Tryz.zeroValue3 }
/-- An edge's two cells. -/
def Tryz.encE (x : Int × Int) : List Value := [.int .i64 x.1, .int .i64 x.2]
/-- What cmp.Or says of two. -/
def Tryz.orI (a b : Int) : Int := if a = 0 then b else a
def Tryz.cmpE (x y : Int × Int) : Int := Tryz.orI (Lib.compareInt x.1 y.1) (Lib.compareInt x.2 y.2)
end Go.Proofs

set_option linter.unusedVariables false
set_option linter.unusedSimpArgs false
set_option linter.unusedSectionVars false
set_option maxRecDepth 100000
namespace Go.Fl
open Go Go.Proofs
variable [Lo]
theorem cmpI_calls (a b : Int) (w : World) : Calls Tryz.prog 156 #[.int .i64 a, .int .i64 b] w (Ret w [] fun r L => L = [] ∧ r = .int .i64 (Lib.compareInt a b)) := by
  refine (AnyG.cmp_Compare_int Tryz.cmpInt a b w).mono ?_
  rintro e w' ⟨rfl, rfl⟩
  exact ⟨_, _, rfl, ⟨rfl, rfl⟩, Own.start _ _⟩
theorem or_calls {g t : Nat} {a b : Int} {w : World} (hg : w.heap[g]? = some (.cells #[.int .i64 a, .int .i64 b] t (0, 0))) :
    Calls Tryz.prog 155 #[.slice (some ⟨g, 0, none⟩) 2 2] w (Ret w [] fun r L => L = [] ∧ r = .int .i64 (Tryz.orI a b)) := by
  have h0 : w.cell? ⟨g, 0, none⟩ = some (.int .i64 a) := by rw [cell_of_row w g 0 _ t (0, 0) hg]; rfl
  have h1 : w.cell? ⟨g, 1, none⟩ = some (.int .i64 b) := by rw [cell_of_row w g 1 _ t (0, 0) hg]; rfl
  refine calls_of (args := [_]) (L := []) Tryz.func155 rfl Tryz.ntmps155 rfl (Own.start _ _) ?_
  refine Zs ?_
  refine Za ?_
  refine Zx ?_
  refine Zs ?_
  refine Za ?_
  refine Zx ?_
  refine DC.seq ?_
  refine Zs ?_
  refine Zm ?_
  refine Zn Tryz.underlying44 ?_
  refine Zm ?_
  refine Zx ?_
  refine DC.block ?_
  refine DC.loop (ι := Nat) (fun i => i ≤ 2 ∧ (0 < i → a = 0) ∧ (1 < i → b = 0)) (fun i => [(3, .int .i64 0), (6, .slice (some ⟨g, 0, none⟩) 2 2), (7, .int .i64 2), (8, .int .i64 i)]) (fun _ => []) (fun i => 2 - i) 0
    ⟨by omega, by omega, by omega⟩ ⟨rfl, rfl, rfl, rfl, trivial⟩ .nil ?_
  rintro i ⟨hi, ha, hb⟩
  refine Zs ?_
  refine Zc ?_
  refine Zx ?_
  refine DC.seq ?_
  refine DC.cond rfl (fun c3 => ?_) (fun c3 => ?_)
  · have hlt : i < 2 := by simp at c3; omega
    obtain ⟨x, hx, hx0, hx1⟩ : ∃ x : Int, w.cell? ⟨g, i, none⟩ = some (.int .i64 x) ∧ (i = 0 → x = a) ∧ (i = 1 → x = b) := by
      rcases (show i = 0 ∨ i = 1 by omega) with rfl | rfl
      · exact ⟨a, h0, fun _ => rfl, fun h => by omega⟩
      · exact ⟨b, h1, fun h => by omega, fun _ => rfl⟩
    refine DC.skip ?_
    refine Fin.then ?_
    refine DC.seq ?_
    refine DC.block ?_
    refine Zs ?_
    refine Seq.pur rfl rfl (p_index1 (ad' := ⟨g, i, none⟩) rfl rfl rfl Tryz.underlying44 sz3 (by omega) (by omega) (add_at0 _ _)) ?_
    refine Seq.val rfl rfl (v_load rfl rfl ag3 (has_old' hx)) ?_
    refine Za ?_
    refine Zx ?_
    refine Zs ?_
    refine Zm ?_
    refine Zm ?_
    refine Seq.pur rfl rfl (p_neq rfl rfl rfl) ?_
    refine Zx ?_
    refine DC.cond rfl (fun c5 => ?_) (fun c5 => ?_)
    · refine Zs ?_
      refine Zm ?_
      refine Za ?_
      refine Zx ?_
      refine DC.ret ?_
      refine Fin.ret_block <| Fin.ret_then <| Fin.ret_then <| Fin.ret_block <| Fin.ret_then <| ?_
      refine Fin.end1 (.inl rfl) rfl rfl ?_
      refine ⟨rfl, ?_⟩
      have hne : x ≠ 0 := by simpa using c5
      unfold Tryz.orI
      rcases (show i = 0 ∨ i = 1 by omega) with h | h
      · rw [hx0 h] at hne ⊢
        rw [if_neg hne]
      · rw [hx1 h, if_pos (ha (by omega))]
    · refine DC.skip ?_
      refine Fin.inBlock ?_
      refine Fin.then ?_
      refine DC.region ?_
      refine Zp ?_
      refine Zm ?_
      refine Seq.nil ?_
      refine Fin.again (i + 1) (by omega) ⟨by omega, fun _ => ?_, fun h => ?_⟩ ⟨rfl, rfl, rfl, rfl, trivial⟩ .nil
      · have hz : x = 0 := by simpa using c5
        by_cases h : i = 0
        · rw [← hx0 h]; exact hz
        · exact ha (by omega)
      · have hz : x = 0 := by simpa using c5
        rw [← hx1 (by omega)]; exact hz
  · refine DC.exit ?_
    refine Fin.exit_then <| Fin.exit_then <| Fin.exit_here <| ?_
    refine Fin.then ?_
    refine Zs ?_
    refine Zm ?_
    refine Za ?_
    refine Zx ?_
    refine DC.ret ?_
    refine Fin.end1 (.inl rfl) rfl rfl ?_
    have hi2 : i = 2 := by simp at c3; omega
    unfold Tryz.orI
    rw [if_pos (ha (by omega)), hb (by omega)]
    exact ⟨rfl, rfl⟩
theorem made1_calls (x y : Int × Int) (w : World) :
    Calls Tryz.prog 154 #[.agg #[.int .i64 x.1, .int .i64 x.2], .agg #[.int .i64 y.1, .int .i64 y.2]] w (Ret w [] fun r L => r = .int .i64 (Tryz.cmpE x y)) := by
  refine calls_of (args := [_, _]) (L := []) Tryz.func154 rfl Tryz.ntmps154 rfl (Own.start _ _) ?_
  refine Zs ?_
  refine Seq.new rfl rfl (n_box rfl rfl rfl) fun g2 => ?_
  refine Seq.new rfl rfl (n_box rfl rfl rfl) fun g3 => ?_
  refine Za ?_
  refine Zx ?_
  refine DC.seq ?_
  refine DC.flow (cl := [.q, .v, .q, .v, .r, .q, .v, .q, .v, .r, .n, .r, .q]) (A := [0, 1, 0, 4, 15, 0, 32, 0, 128, 511, 1023, 2047, 4095]) (order := [0, 1, 2, 3, 4, 5, 6, 7, 8, 9, 10, 11, 12]) [] mixed (by kernel_rfl) (fun w hw => hw.pick .nil) ?_
  refine Yf fi43_0 ?_
  refine Yl ag3 ?_
  refine Yf fi43_0 ?_
  refine Yl ag3 ?_
  refine Flow.rel0 rfl rfl rfl rfl (r_call en156 rfl rfl rfl (fun w' hw => cmpI_calls _ _ w')) ?_
  rintro _ rfl
  refine Yf fi43_1 ?_
  refine Yl ag3 ?_
  refine Yf fi43_1 ?_
  refine Yl ag3 ?_
  refine Flow.rel0 rfl rfl rfl rfl (r_call en156 rfl rfl rfl (fun w' hw => cmpI_calls _ _ w')) ?_
  rintro _ rfl
  refine Flow.new' rfl rfl rfl rfl (n_slit (cs := #[_, _]) rfl rfl Tryz.underlying44 sz3 ze3 rfl (by decide) (by decide) rfl rfl) fun g15 => ?_
  refine Flow.rel0V (V := [blk g15 3 #[.int .i64 (Lib.compareInt x.1 y.1), .int .i64 (Lib.compareInt x.2 y.2)], blk g3 43 #[.int .i64 y.1, .int .i64 y.2], blk g2 43 #[.int .i64 x.1, .int .i64 x.2]]) rfl rfl rfl rfl (by kernel_rfl) (r_call en155 rfl rfl rfl (fun w' hw => or_calls (a := Lib.compareInt x.1 y.1) (b := Lib.compareInt x.2 y.2) (hw.holds _ (List.mem_cons_self ..)))) ?_
  rintro _ rfl
  refine Flow.pur rfl rfl rfl (p_assign rfl rfl) ?_
  refine Flow.end rfl ?_
  simp only [List.map_cons, List.map_nil, List.nil_append, List.cons_append, List.append_nil]
  refine Fin.then ?_
  refine DC.ret ?_
  refine Fin.end1 (.inl rfl) rfl rfl ?_
  rfl
/-- A world that only grew. -/
theorem grown_of {w w' : World} {L : List Chunk} (h : Own w [] w' L) (hd : w.drawn ≤ w'.drawn) : ∃ q os, w' = Sort.grow (w.drewN q) os := by
  refine ⟨w'.drawn - w.drawn, w'.heap.extract w.heap.size w'.heap.size, ?_⟩
  have hh : w'.heap = w.heap ++ w'.heap.extract w.heap.size w'.heap.size := by
    apply Array.ext_getElem?
    intro i
    by_cases hi : i < w.heap.size
    · rw [Array.getElem?_append_left hi]; exact h.old i hi (by simp)
    · rw [Array.getElem?_append_right (by omega), Array.getElem?_extract]
      have hs := h.size
      by_cases h2 : i < w'.heap.size
      · rw [if_pos (by omega)]
        congr 1; omega
      · rw [if_neg (by omega), Array.getElem?_eq_none (by omega)]
  have e : w.drawn + (w'.drawn - w.drawn) = w'.drawn := by omega
  have e1 := h.os
  have e2 := h.tape
  have e3 := h.output
  clear h hd
  cases w' with
  | mk h' t' d' o' u' =>
    cases w with
    | mk h0 t0 d0 o0 u0 =>
      simp only [Sort.grow, World.drewN] at *
      rw [World.mk.injEq]
      exact ⟨hh, e2, e.symm, e1, e3⟩
theorem made1_grown (hL : ¬ Lo.p) (x y : Int × Int) (w : World) :
    Calls Tryz.prog 154 #[.agg #[.int .i64 x.1, .int .i64 x.2], .agg #[.int .i64 y.1, .int .i64 y.2]] w fun e w' => e = .returned (.int .i64 (Tryz.cmpE x y)) ∧ ∃ q os, w' = Sort.grow (w.drewN q) os := by
  refine (made1_calls x y w).mono ?_
  rintro e w' ⟨v, L, rfl, rfl, hO⟩
  exact ⟨rfl, grown_of hO (hO.drawn.resolve_left hL)⟩
end Go.Fl

set_option linter.unusedVariables false
set_option linter.unusedSimpArgs false
set_option linter.unusedSectionVars false
set_option maxRecDepth 100000
namespace Go.Fl
open Go Go.Proofs Go.RowKit Go.Lib Go.Sort Go.Shelf
open Classical
theorem cmpE_lt (x y : Int × Int) : ltOf Tryz.cmpE x y = decide (Lex x y) := by
  unfold ltOf Tryz.cmpE Tryz.orI Lib.compareInt Lex
  by_cases h1 : x.1 < y.1
  · simp [h1]
  · by_cases h2 : y.1 < x.1
    · have : ¬ x.1 = y.1 := by omega
      simp [h1, h2, this]
    · have : x.1 = y.1 := by omega
      by_cases h3 : x.2 < y.2
      · simp [h1, h2, h3, this]
      · by_cases h4 : y.2 < x.2
        · simp [h1, h2, h3, h4, this]
        · simp [h1, h2, h3, h4, this]
theorem cmpE_swo : SWO (ltOf Tryz.cmpE) where
  irrefl x := by rw [cmpE_lt]; simp [Lex]
  trans x y z h1 h2 := by
    rw [cmpE_lt] at *
    have h1 := of_decide_eq_true h1
    have h2 := of_decide_eq_true h2
    refine decide_eq_true ?_
    unfold Lex at *; omega
  ntrans x y z h1 h2 := by
    rw [cmpE_lt] at *
    have h1 := of_decide_eq_false h1
    have h2 := of_decide_eq_false h2
    refine decide_eq_false ?_
    unfold Lex at *; omega
theorem cmpE_total (x y : Int × Int) (h1 : ltOf Tryz.cmpE x y = false) (h2 : ltOf Tryz.cmpE y x = false) : x = y := by
  rw [cmpE_lt] at *
  have h1 := of_decide_eq_false h1
  have h2 := of_decide_eq_false h2
  unfold Lex at *
  exact Prod.ext (by omega) (by omega)
theorem cmpE_lays (blk off size : Nat) (w : World) : CmpLays Tryz.prog 154 #[] Tryz.encE 2 Tryz.cmpE blk off size w := by
  intro m os dk hdk x y
  generalize sortWorldK Tryz.encE 2 w blk off m dk os = W
  exact @made1_grown ⟨False⟩ id x y W
theorem flatK_prs (es : List Pr) : flatK Tryz.encE 2 es.toArray = (prs es).toArray := by
  apply ext_get!
  · simp
  · intro t ht
    simp at ht
    rw [get_flatK _ _ _ _ (by simpa using ht)]
    obtain ⟨e, he⟩ : ∃ e, es[t / 2]? = some e := ⟨_, List.getElem?_eq_getElem (by omega)⟩
    have h1 := prs_get he
    have hd : es.toArray[t / 2]! = e := by simp [he]
    rw [hd]
    rcases (show t % 2 = 0 ∨ t % 2 = 1 by omega) with h0 | h0
    · have : t / 2 * 2 = t := by omega
      rw [h0]
      rw [this] at h1
      simp [Tryz.encE, h1.1]
    · have : t / 2 * 2 + 1 = t := by omega
      rw [h0]
      rw [this] at h1
      simp [Tryz.encE, h1.2]
/-- Edges that rise stay as they are. -/
theorem sort_calls {v : Value} {es : List Pr} {w : World} (hO : Own w (idsOf [slc v 43 2 (prs es)]) w [slc v 43 2 (prs es)]) (hup : es.Pairwise Lex) (hl : es.length ≤ 1000000000) :
    Calls Tryz.prog 74 #[v, .func (.func 154) #[] #[]] w (Ret w (idsOf [slc v 43 2 (prs es)]) fun r M => M = [slc v 43 2 (prs es)]) := by
  rcases own_open hO with ⟨rfl, h, _⟩ | ⟨g, len, cap, sp, rfl, h1, h2, h3, h4, hb⟩
  · refine (AnyF.slices_SortFunc_none { Tryz.sortEdge with } none 0 (.func (.func 154) #[] #[]) w).mono ?_
    rintro e w' ⟨rfl, rfl⟩
    exact ⟨_, _, rfl, rfl, hO⟩
  · simp at h1
    obtain rfl : es.length = len := by omega
    have hg : w.heap[g]? = some (.cells (prs es ++ sp).toArray 43 (0, 0)) := hb.holds _ (List.mem_cons_self ..)
    have hlt : g < w.heap.size := (Array.getElem?_eq_some_iff.1 hg).1
    have hH : HoldsK Tryz.encE 2 w g 0 es.toArray := by
      unfold HoldsK
      rw [flatK_prs]
      intro j hj
      have hj' : j < (prs es).length := by simpa using hj
      constructor
      · rw [cell_of_row w g _ _ _ (0, 0) hg, List.getElem?_toArray, Nat.zero_add, List.getElem?_append_left hj', List.getElem?_eq_getElem hj']
        simp [List.getElem?_eq_getElem hj']
      · simp [World.frozen?, hg]
    have hcon := AnyQ.slices_SortFunc_total Tryz.sortEdge 2 Tryz.isAgg43 Tryz.sizeOf43 Tryz.encE (fun _ => rfl) (fun x v hv => by simp [Tryz.encE] at hv; rcases hv with rfl | rfl <;> rfl) Tryz.cmpE cmpE_swo 154 #[] g 0 cap es.toArray w
      (enters_of Tryz.func154 (by kernel_rfl) rfl) (cmpE_lays g 0 es.toArray.size w) hH hlt (by simp; omega) cmpE_total
    refine hcon.mono ?_
    rintro e w' ⟨rfl, n, os, rfl⟩
    refine ⟨_, [slc (.slice (some ⟨g, 0, none⟩) es.length cap) 43 2 (prs es)], rfl, rfl, ?_⟩
    have hsorted : (es.toArray.toList.mergeSort fun x y => !(ltOf Tryz.cmpE) y x).toArray = es.toArray := by
      congr 1
      refine List.mergeSort_of_pairwise ?_
      refine hup.imp ?_
      intro a b hab
      rw [cmpE_lt]
      have : decide (Lex b a) = false := decide_eq_false (by unfold Lex at *; omega)
      rw [this]; rfl
    rw [hsorted]
    have hself : sortWorldK Tryz.encE 2 w g 0 n es.toArray os = Sort.grow (w.drewN n) os := by
      unfold sortWorldK
      rw [putRowK_self _ _ _ _ _ _ (holdsK_ahead _ _ _ n _ _ _ hH)]
      rfl
    rw [hself]
    have := Own.frame (Lc := []) (F := [slc (.slice (some ⟨g, 0, none⟩) es.length cap) 43 2 (prs es)]) hO (own_grow w n os) (fun k hk => by simp at hk)
    simpa using this
end Go.Fl

set_option linter.unusedVariables false
set_option linter.unusedSimpArgs false
set_option linter.unusedSectionVars false
set_option maxRecDepth 100000
namespace Go.Fl
open Go Go.Proofs
theorem sub1_calls {gs gb m i : Nat} {a b : Int} {f : Nat → Bool} {w : World} (hs : w.heap[gs]? = some (.cells #[.slice (some ⟨gb, 0, none⟩) m m] 188 (0, 0))) (hb : w.heap[gb]? = some (.cells (bls m f).toArray 4 (0, 0))) (hi : i < m) :
    Calls Tryz.prog 124 #[.int .i64 i, .agg #[.int .i64 a, .int .i64 b], .pointer (some ⟨gs, 0, none⟩)] w (Ret w [] fun r M => M = [] ∧ r = .bool (f i)) := by
  refine calls_of (args := [_, _, _]) (L := []) Tryz.func124 rfl Tryz.ntmps124 rfl (Own.start _ _) ?_
  refine Zs ?_
  refine Seq.new rfl rfl (n_box rfl rfl rfl) fun g4 => ?_
  refine Za ?_
  refine Zx ?_
  refine Zs ?_
  refine Seq.val rfl rfl (v_load rfl rfl ag188 (has_heap hs rfl)) ?_
  refine Zm ?_
  refine Zi Tryz.underlying188 sz4 ?_
  refine Seq.val rfl rfl (v_load rfl rfl ag4 (has_heap hb (bls_get f hi))) ?_
  refine Za ?_
  refine Zx ?_
  refine DC.ret ?_
  refine Fin.weak (E' := [(5, _)]) ⟨rfl, trivial⟩ .nil ?_
  refine Fin.end1 (.inl rfl) rfl rfl ?_
  exact ⟨rfl, rfl⟩
/-- The edges at whose places f is true. -/
def kp (f : Nat → Bool) : Nat → List Pr → List Pr
  | _, [] => []
  | k, e :: r => if f k then e :: kp f (k + 1) r else kp f (k + 1) r
theorem kp_app (f : Nat → Bool) : ∀ (a b : List Pr) (k : Nat), kp f k (a ++ b) = kp f k a ++ kp f (k + a.length) b
  | [], b, k => by simp [kp]
  | e :: r, b, k => by
    simp only [List.cons_append, kp, List.length_cons]
    rw [kp_app f r b (k + 1), show k + 1 + r.length = k + (r.length + 1) by omega]
    split <;> simp
theorem kp_len (f : Nat → Bool) : ∀ (a : List Pr) (k : Nat), (kp f k a).length ≤ a.length
  | [], k => by simp [kp]
  | e :: r, k => by
    have := kp_len f r (k + 1)
    unfold kp
    split <;> simp <;> omega
theorem kp_succ (f : Nat → Bool) {es : List Pr} {i : Nat} {e : Pr} (he : es[i]? = some e) : kp f 0 (es.take (i + 1)) = kp f 0 (es.take i) ++ if f i then [e] else [] := by
  have hl := (List.getElem?_eq_some_iff.1 he).1
  rw [List.take_add_one, he, kp_app]
  congr 1
  simp only [List.length_take, Nat.min_eq_left (Nat.le_of_lt hl), Nat.zero_add, Option.toList_some, kp]
structure KeI where
  i : Nat
  v : Value
theorem kept_calls {n : Int} {es : List Pr} {va : Value} {gs gb : Nat} {f : Nat → Bool} {w : World} (hg : PrV w va es) (hs : w.heap[gs]? = some (.cells #[.slice (some ⟨gb, 0, none⟩) es.length es.length] 188 (0, 0))) (hb : w.heap[gb]? = some (.cells (bls es.length f).toArray 4 (0, 0))) (hl : es.length ≤ 1000000000) :
    Calls Tryz.prog 123 #[.agg #[.int .i64 n, va], .func (.func 124) #[] #[.pointer (some ⟨gs, 0, none⟩)]] w (Ret w [] fun r M => M = [slc r 43 2 (prs (kp f 0 es))]) := by
  obtain ⟨A, cap, rfl, hr, hlc, hcm, hle⟩ := hg
  refine calls_of (args := [_, _]) (L := []) Tryz.func123 rfl Tryz.ntmps123 rfl (Own.start _ _) ?_
  refine Zs ?_
  refine Seq.new rfl rfl (n_box rfl rfl rfl) fun g2 => ?_
  refine Za ?_
  refine Zx ?_
  refine Zs ?_
  refine Za ?_
  refine Zx ?_
  refine DC.seq ?_
  refine Zs ?_
  refine Zf fi24_1 ?_
  refine Zl ag22 ?_
  refine Zn Tryz.underlying22 ?_
  refine Zm ?_
  refine Zx ?_
  refine DC.block ?_
  refine DC.own (fun w hw => own_nil (t := 43) (m := 2) hw) ?_
  refine DC.loop (ι := KeI) (fun j => j.i ≤ es.length)
    (fun j => [(1, .func (.func 124) #[] #[.pointer (some ⟨gs, 0, none⟩)]), (5, j.v), (9, .slice A es.length cap), (10, .int .i64 es.length), (11, .int .i64 j.i)])
    (fun j => [slc j.v 43 2 (prs (kp f 0 (es.take j.i)))]) (fun j => es.length - j.i) ⟨0, .slice none 0 0⟩ (Nat.zero_le _) ⟨rfl, rfl, rfl, rfl, rfl, trivial⟩ (.cons 0 rfl .nil) ?_
  rintro ⟨i, v⟩ hi
  dsimp only at hi ⊢
  refine Zs ?_
  refine Zc ?_
  refine Zx ?_
  refine DC.seq ?_
  refine DC.cond rfl (fun c3 => ?_) (fun c3 => ?_)
  · have hlt : i < es.length := by simpa using c3
    obtain ⟨e, he⟩ : ∃ e, es[i]? = some e := ⟨_, List.getElem?_eq_getElem hlt⟩
    obtain ⟨ad, rfl, hU, hVe⟩ := hr.pair he
    have hkl := kp_len f (es.take i) 0
    rw [List.length_take] at hkl
    refine DC.skip ?_
    refine Fin.then ?_
    refine DC.seq ?_
    refine DC.block ?_
    refine Zs ?_
    refine Zm ?_
    refine Seq.pur rfl rfl (p_index rfl rfl rfl Tryz.underlying22 sz43 (by omega) (by omega) (by first | exact add_at0 _ _ | exact add_at _ _ _ | rfl)) ?_
    refine Seq.val rfl rfl (v_loads (vs := [_, _]) rfl rfl ag43 sz43 rfl (hass2 hU hVe (by simp))) ?_
    refine Seq.new rfl rfl (n_alloc rfl ze43 rfl) fun g7 => ?_
    refine Za ?_
    refine Seq.sto rfl rfl (s_stores (cs' := #[_, _]) rfl rfl rfl sz43 rfl (Nat.le_of_ble_eq_true rfl) rfl) ?_
    refine Zx ?_
    refine Zs ?_
    refine Zm ?_
    refine Zm ?_
    refine Seq.val rfl rfl (v_loads (vs := [_, _]) rfl rfl ag43 sz43 rfl (hass_blk rfl)) ?_
    refine Seq.rel0 rfl rfl (r_call en124 rfl rfl rfl (fun w' hw => sub1_calls (old_heap hw hs (by simp)) (old_heap hw hb (by simp)) hlt)) ?_
    rintro _ rfl
    refine Zx ?_
    refine DC.cond rfl (fun c5 => ?_) (fun c5 => ?_)
    · refine DC.region ?_
      refine Zm ?_
      refine Seq.val rfl rfl (v_loads (vs := [_, _]) rfl rfl ag43 sz43 rfl (hass_blk rfl)) ?_
      refine Seq.new rfl rfl (n_slit (cs := #[_, _]) rfl rfl Tryz.underlying22 sz43 ze43 rfl (by decide) (by decide) rfl rfl) fun g22 => ?_
      refine Seq.gen rfl rfl (g_append rfl rfl rfl Tryz.underlying22 sz43 by43 ze43 rfl (by decide) (by decide) (fun w hw => hw.pick (.cons 2 rfl .nil)) (.inl ⟨_, _, rfl, hass_blk rfl⟩) rfl (prs_one [e]) (by simp; omega)) ?_
      rintro v23 _ rfl
      refine Za ?_
      refine Seq.nil ?_
      refine Fin.inBlock ?_
      refine Fin.then ?_
      refine DC.region ?_
      refine Zp ?_
      refine Zm ?_
      refine Seq.nil ?_
      refine Fin.again ⟨i + 1, v23⟩ (by dsimp only; omega) (by dsimp only; omega) ⟨rfl, rfl, rfl, rfl, rfl, trivial⟩ (.cons' 0 rfl (by dsimp only; rw [kp_succ f he, if_pos c5, prs_append]) .nil)
    · refine DC.skip ?_
      refine Fin.inBlock ?_
      refine Fin.then ?_
      refine DC.region ?_
      refine Zp ?_
      refine Zm ?_
      refine Seq.nil ?_
      refine Fin.again ⟨i + 1, v⟩ (by dsimp only; omega) (by dsimp only; omega) ⟨rfl, rfl, rfl, rfl, rfl, trivial⟩ (.cons' 1 rfl (by dsimp only; rw [kp_succ f he, if_neg (by rw [c5]; simp), List.append_nil]) .nil)
  · refine DC.exit ?_
    refine Fin.exit_then <| Fin.exit_then <| Fin.exit_here <| ?_
    refine Fin.then ?_
    refine Zs ?_
    refine Zm ?_
    refine Za ?_
    refine Zx ?_
    refine DC.ret ?_
    have hie : i = es.length := by simp at c3; omega
    subst hie
    rw [List.take_length]
    refine Fin.weak (E' := [(4, _)]) (L' := [slc v 43 2 (prs (kp f 0 es))]) ⟨rfl, trivial⟩ (.cons 0 rfl .nil) ?_
    refine Fin.end1 (.inl rfl) rfl rfl ?_
    rfl
structure MdI where
  i : Nat
  v : Value
theorem made_calls {n : Int} {es : List Pr} {va : Value} {w : World} (hg : PrV w va es) (hup : es.Pairwise Lex) (hlt : ∀ e, e ∈ es → e.1 < e.2) (hl : es.length ≤ 1000000000) :
    Calls Tryz.prog 122 #[.int .i64 n, va] w (Ret w [] fun r M => ∃ A l c, r = .agg #[.int .i64 n, .slice A l c] ∧ M = [slc (.slice A l c) 43 2 (prs es)]) := by
  obtain ⟨A, cap, rfl, hr, hlc, hcm, hle⟩ := hg
  refine calls_of (args := [_, _]) (L := []) Tryz.func122 rfl Tryz.ntmps122 rfl (Own.start _ _) ?_
  refine Zs ?_
  refine Seq.new rfl rfl (n_alloc rfl ze24 rfl) fun g4 => ?_
  refine Zx ?_
  refine Zs ?_
  refine Zm ?_
  refine Zn Tryz.underlying22 ?_
  refine Seq.new rfl rfl (n_make2 (l := 0) (k := es.length) rfl rfl rfl Tryz.underlying22 sz43 by43 ze43 rfl (by omega) (by omega) (by omega) (by omega) rfl) fun g10 => ?_
  refine Za ?_
  refine Zx ?_
  refine DC.seq ?_
  refine Zs ?_
  refine Zm ?_
  refine Zn Tryz.underlying22 ?_
  refine Zm ?_
  refine Zx ?_
  refine DC.block ?_
  refine DC.own (M := slc (.slice (some ⟨g10, 0, none⟩) 0 es.length) 43 2 [] :: [blk g4 24 #[.int .i64 0, .slice none 0 0]]) (fun w hw => own_slc (vs := []) (m := 2) (len := 0) (cap := es.length) rfl (by decide) (by omega) (by omega) (by simp [madeCells]) rfl hw) ?_
  refine DC.loop (ι := MdI) (fun j => j.i ≤ es.length)
    (fun j => [(0, .int .i64 n), (4, .pointer (some ⟨g4, 0, none⟩)), (5, j.v), (11, .slice A es.length cap), (12, .int .i64 es.length), (13, .int .i64 j.i)])
    (fun j => slc j.v 43 2 (prs (es.take j.i)) :: [blk g4 24 #[.int .i64 0, .slice none 0 0]]) (fun j => es.length - j.i) ⟨0, _⟩ (Nat.zero_le _) ⟨rfl, rfl, rfl, rfl, rfl, rfl, trivial⟩ (.cons 0 rfl (.cons 0 rfl .nil)) ?_
  rintro ⟨i, v⟩ hi
  dsimp only at hi ⊢
  refine Zs ?_
  refine Zc ?_
  refine Zx ?_
  refine DC.seq ?_
  refine DC.cond rfl (fun c3 => ?_) (fun c3 => ?_)
  · have hil : i < es.length := by simpa using c3
    obtain ⟨e, he⟩ : ∃ e, es[i]? = some e := ⟨_, List.getElem?_eq_getElem hil⟩
    obtain ⟨ad, rfl, hU, hVe⟩ := hr.pair he
    have hee := hlt e (List.mem_of_getElem? he)
    have hmin : min e.1 e.2 = e.1 := by omega
    have hmax : max e.1 e.2 = e.2 := by omega
    refine DC.skip ?_
    refine Fin.then ?_
    refine DC.seq ?_
    refine DC.block ?_
    refine Zs ?_
    refine Seq.pur rfl rfl (p_index rfl rfl rfl Tryz.underlying22 sz43 (by omega) (by omega) (by first | exact add_at0 _ _ | exact add_at _ _ _ | rfl)) ?_
    refine Seq.val rfl rfl (v_loads (vs := [_, _]) rfl rfl ag43 sz43 rfl (hass2 hU hVe (by simp))) ?_
    refine Seq.new rfl rfl (n_alloc rfl ze43 rfl) fun g7 => ?_
    refine Seq.sto rfl rfl (s_stores (cs' := #[_, _]) rfl rfl rfl sz43 rfl (Nat.le_of_ble_eq_true rfl) rfl) ?_
    refine Zx ?_
    refine DC.region ?_
    refine Zm ?_
    refine Zf fi43_0 ?_
    refine Zl ag3 ?_
    refine Zf fi43_1 ?_
    refine Zl ag3 ?_
    refine Seq.pur rfl rfl (p_min rfl rfl rfl) ?_
    refine Zf fi43_0 ?_
    refine Zl ag3 ?_
    refine Zf fi43_1 ?_
    refine Zl ag3 ?_
    refine Seq.pur rfl rfl (p_max rfl rfl rfl) ?_
    refine Seq.pur rfl rfl (p_struct (cs := #[_, _]) rfl rfl bs43 rfl rfl) ?_
    refine Seq.new rfl rfl (n_slit (cs := #[_, _]) rfl rfl Tryz.underlying22 sz43 ze43 rfl (by decide) (by decide) rfl rfl) fun g29 => ?_
    refine Seq.gen rfl rfl (g_append rfl rfl rfl Tryz.underlying22 sz43 by43 ze43 rfl (by decide) (by decide) (F := [blk g4 24 #[.int .i64 0, .slice none 0 0]]) (fun w hw => hw.pick (.cons 2 rfl (.cons 2 rfl .nil))) (.inl ⟨_, _, rfl, hass_blk rfl⟩) rfl (prs_one [(min e.1 e.2, max e.1 e.2)]) (by simp; omega)) ?_
    rintro v30 _ rfl
    refine Za ?_
    refine Seq.nil ?_
    refine Fin.inBlock ?_
    refine Fin.then ?_
    refine DC.region ?_
    refine Zp ?_
    refine Zm ?_
    refine Seq.nil ?_
    refine Fin.again ⟨i + 1, v30⟩ (by dsimp only; omega) (by dsimp only; omega) ⟨rfl, rfl, rfl, rfl, rfl, rfl, trivial⟩ (.cons' 0 rfl (by dsimp only; rw [List.take_add_one, he, prs_append, hmin, hmax]; rfl) (.cons 0 rfl .nil))
  · refine DC.exit ?_
    refine Fin.exit_then <| Fin.exit_then <| Fin.exit_here <| ?_
    refine Fin.then ?_
    refine DC.seq ?_
    have hie : i = es.length := by simp at c3; omega
    subst hie
    rw [List.take_length]
    refine DC.region ?_
    refine Zm ?_
    refine Seq.gen rfl rfl (g_call en74 rfl rfl rfl (Lc := [slc v 43 2 (prs es)]) (F := [blk g4 24 #[.int .i64 0, .slice none 0 0]]) (.refl _) (fun k hk => hk) (fun w' hw => sort_calls (hw.sub (L' := [slc v 43 2 (prs es)]) ((List.nil_sublist _).cons_cons _)).self hup hl)) ?_
    rintro v33 _ ⟨_, rfl, rfl⟩
    simp only [List.cons_append, List.nil_append]
    refine Zx ?_
    refine DC.seq ?_
    refine DC.shape (t := 43) (m := 2) (vs := prs es) 0 rfl ?_
    rintro ⟨Av, lv, cv, rfl⟩
    refine DC.region ?_
    refine Zm ?_
    refine Zm ?_
    refine Seq.pur rfl rfl (p_struct (cs := #[_, _]) rfl rfl bs24 rfl rfl) ?_
    refine Seq.sto rfl rfl (s_stores (cs' := #[_, _]) rfl rfl rfl sz24 rfl (Nat.le_of_ble_eq_true rfl) rfl) ?_
    refine Zx ?_
    refine DC.ret ?_
    refine Fin.endc (cs := #[_, _]) (.inl rfl) rfl rfl ag24 sz24 ?_
    exact ⟨[slc (.slice Av lv cv) 43 2 (prs es)], fun w hw => hw.pick (.cons 0 rfl .nil), _, _, _, rfl, rfl⟩
open Classical in
theorem kp_mem {f : Nat → Bool} : ∀ {es : List Pr} {k : Nat} {e : Pr}, e ∈ kp f k es ↔ ∃ i, es[i]? = some e ∧ f (k + i) = true
  | [], k, e => by simp [kp]
  | x :: r, k, e => by
    have ih := kp_mem (f := f) (es := r) (k := k + 1) (e := e)
    unfold kp
    constructor
    · intro h
      split at h
      · rename_i hf
        rcases List.mem_cons.1 h with rfl | h
        · exact ⟨0, rfl, hf⟩
        · obtain ⟨i, hi, hfi⟩ := ih.1 h
          exact ⟨i + 1, by simpa using hi, by rw [← hfi]; congr 1; omega⟩
      · obtain ⟨i, hi, hfi⟩ := ih.1 h
        exact ⟨i + 1, by simpa using hi, by rw [← hfi]; congr 1; omega⟩
    · rintro ⟨i, hi, hfi⟩
      match i with
      | 0 =>
        simp at hi; subst hi
        rw [Nat.add_zero] at hfi
        rw [if_pos hfi]; simp
      | i + 1 =>
        have := ih.2 ⟨i, by simpa using hi, by rw [← hfi]; congr 1; omega⟩
        split
        · exact List.mem_cons_of_mem _ this
        · exact this
theorem kp_sub (f : Nat → Bool) : ∀ (es : List Pr) (k : Nat), (kp f k es).Sublist es
  | [], k => by simp [kp]
  | x :: r, k => by
    have := kp_sub f r (k + 1)
    unfold kp
    split
    · exact this.cons_cons x
    · exact this.cons x
theorem vld_pairwise {N : Int} {es : List Pr} (hV : Vld N es) : es.Pairwise Lex := by
  rw [List.pairwise_iff_getElem]
  intro i j hi hj hij
  exact lex_lt hV hij (List.getElem?_eq_getElem hi) (List.getElem?_eq_getElem hj)
open Classical in
/-- Which places stand among the first i numbers. -/
noncomputable def stF (ks : List Int) (i : Nat) : Nat → Bool := fun x => decide ((x : Int) ∈ ks.take i)
theorem Sub_calls {n : Nat} {es : List Pr} {ks : List Int} {va vk : Value} {w : World} (hg : PrV w va es) (hV : Vld n es) (hk : SlV w vk ks) (hin : ∀ k, k ∈ ks → 0 ≤ k ∧ k < es.length) :
    Calls Tryz.prog 97 #[.agg #[.int .i64 n, va], vk] w (Ret w [] fun r M => ∃ Av l c, r = .tuple #[.agg #[.int .i64 n, .slice Av l c], .int .i64 0] ∧ M = [slc (.slice Av l c) 43 2 (prs (kp (stF ks ks.length) 0 es))]) := by
  have hg0 := hg
  have hfew := hV.few
  obtain ⟨A, cap, rfl, hr, hlc, hcm, hle⟩ := hg
  obtain ⟨B, capb, rfl, hrb, hlb, hcb, hleb⟩ := hk
  refine calls_of (args := [_, _]) (L := []) Tryz.func97 rfl Tryz.ntmps97 rfl (Own.start _ _) ?_
  refine Zs ?_
  refine Seq.new rfl rfl (n_box rfl rfl rfl) fun g2 => ?_
  refine Seq.new rfl rfl (n_alloc rfl ze24 rfl) fun g4 => ?_
  refine Za ?_
  refine Zx ?_
  refine DC.seq ?_
  refine Zs ?_
  refine Seq.val rfl rfl (v_loads (vs := [_, _]) rfl rfl ag24 sz24 rfl (hass_blk rfl)) ?_
  refine Seq.rel0 rfl rfl (r_call en41 rfl rfl rfl (fun w' hw => validP_calls (hg0.keep0 hw))) ?_
  rintro _ ⟨b, rfl, hb⟩
  refine Seq.pur rfl rfl (p_not rfl rfl) ?_
  refine Zx ?_
  refine DC.cond rfl (fun c1 => ?_) (fun c1 => ?_)
  · refine Zs ?_
    refine Seq.pur rfl rfl (p_struct (cs := #[_, _]) rfl rfl bs24 rfl rfl) ?_
    refine Seq.sto rfl rfl (s_stores (cs' := #[_, _]) rfl rfl rfl sz24 rfl (Nat.le_of_ble_eq_true rfl) rfl) ?_
    refine Za ?_
    refine Zx ?_
    refine DC.ret ?_
    refine Fin.ret_then <| ?_
    refine Fin.endct (cs := #[_, _]) (.inl rfl) rfl rfl rfl ag24 sz24 ?_
    rw [hb.2 hV] at c1
    simp at c1
  · refine DC.skip ?_
    refine Fin.then ?_
    refine Zs ?_
    refine Zf fi24_1 ?_
    refine Zl ag22 ?_
    refine Zn Tryz.underlying22 ?_
    refine Seq.new rfl rfl (n_make (k := es.length) rfl rfl rfl Tryz.underlying188 sz4 by4 ze4 rfl (by omega) (by omega) (made_bls _)) fun g16 => ?_
    refine Seq.new rfl rfl (n_alloc rfl ze188 rfl) fun g6 => ?_
    refine Seq.sto rfl rfl (s_store (cs' := #[_]) rfl rfl rfl sz188 rfl (Nat.le_of_ble_eq_true rfl) rfl) ?_
    refine Zx ?_
    refine DC.seq ?_
    refine Zs ?_
    refine Zm ?_
    refine Zn Tryz.underlying44 ?_
    refine Zm ?_
    refine Zx ?_
    refine DC.block ?_
    refine DC.loop (ι := Nat) (fun i => i ≤ ks.length)
      (fun i => [(2, .pointer (some ⟨g2, 0, none⟩)), (4, .pointer (some ⟨g4, 0, none⟩)), (6, .pointer (some ⟨g6, 0, none⟩)), (17, .slice B ks.length capb), (18, .int .i64 ks.length), (19, .int .i64 i)])
      (fun i => [blk g6 188 #[.slice (some ⟨g16, 0, none⟩) es.length es.length], blk g16 4 (bls es.length (stF ks i)).toArray, blk g4 24 #[.int .i64 0, .slice none 0 0], blk g2 24 #[.int .i64 n, .slice A es.length cap]]) (fun i => ks.length - i) 0 (Nat.zero_le _) ⟨rfl, rfl, rfl, rfl, rfl, rfl, trivial⟩
      (.cons 0 rfl (.cons' 0 rfl (by rw [show stF ks 0 = fun _ => false from funext fun x => by simp [stF]]) (.cons 0 rfl (.cons 0 rfl .nil)))) ?_
    rintro i hi
    refine Zs ?_
    refine Zc ?_
    refine Zx ?_
    refine DC.seq ?_
    refine DC.cond rfl (fun c5 => ?_) (fun c5 => ?_)
    · have hlt : i < ks.length := by simpa using c5
      obtain ⟨k, hk⟩ : ∃ k, ks[i]? = some k := ⟨_, List.getElem?_eq_getElem hlt⟩
      obtain ⟨adb, rfl, hck⟩ := hrb.int hk
      obtain ⟨hk0, hk1⟩ := hin k (List.mem_of_getElem? hk)
      refine DC.skip ?_
      refine Fin.then ?_
      refine DC.seq ?_
      refine DC.block ?_
      refine Zs ?_
      refine Seq.pur rfl rfl (p_index1 (ad' := adb.add i) rfl rfl rfl Tryz.underlying44 sz3 (by omega) (by omega) rfl) ?_
      refine Seq.val rfl rfl (v_load rfl rfl ag3 (has_old' hck)) ?_
      refine Za ?_
      refine Zx ?_
      refine DC.seq ?_
      refine Zs ?_
      refine Zm ?_
      refine Zc ?_
      refine Zm ?_
      refine Seq.split 25 rfl (fun k7_2 => ?_) (fun k7_2 => ?_)
      · refine Zk ?_
        refine Zk ?_
        refine Zk ?_
        refine Zk ?_
        refine Zt ?_
        refine Zx ?_
        refine DC.cond_t rfl ?_
        refine Zs ?_
        refine Seq.pur rfl rfl (p_struct (cs := #[_, _]) rfl rfl bs24 rfl rfl) ?_
        refine Seq.sto rfl rfl (s_stores (cs' := #[_, _]) rfl rfl rfl sz24 rfl (Nat.le_of_ble_eq_true rfl) rfl) ?_
        refine Za ?_
        refine Zx ?_
        refine DC.ret ?_
        refine Fin.ret_then <| Fin.ret_block <| Fin.ret_then <| Fin.ret_then <| Fin.ret_block <| Fin.ret_then <| ?_
        refine Fin.endct (cs := #[_, _]) (.inl rfl) rfl rfl rfl ag24 sz24 ?_
        first
        | (simp at k7_2; omega)
        | (simp at c7; omega)
      · refine Zm ?_
        refine Zl ag188 ?_
        refine Zn Tryz.underlying188 ?_
        refine Seq.pur rfl rfl (p_geq rfl rfl rfl) ?_
        refine Zg ?_
        refine Zx ?_
        refine DC.cond rfl (fun c7 => ?_) (fun c7 => ?_)
        · refine Zs ?_
          refine Seq.pur rfl rfl (p_struct (cs := #[_, _]) rfl rfl bs24 rfl rfl) ?_
          refine Seq.sto rfl rfl (s_stores (cs' := #[_, _]) rfl rfl rfl sz24 rfl (Nat.le_of_ble_eq_true rfl) rfl) ?_
          refine Za ?_
          refine Zx ?_
          refine DC.ret ?_
          refine Fin.ret_then <| Fin.ret_block <| Fin.ret_then <| Fin.ret_then <| Fin.ret_block <| Fin.ret_then <| ?_
          refine Fin.endct (cs := #[_, _]) (.inl rfl) rfl rfl rfl ag24 sz24 ?_
          first
          | (simp at k7_2; omega)
          | (simp at c7; omega)
        · refine DC.skip ?_
          refine Fin.then ?_
          refine DC.region ?_
          refine Zl ag188 ?_
          refine Zm ?_
          refine Zi Tryz.underlying188 sz4 ?_
          refine Seq.sto rfl rfl (s_store (cs' := (bls es.length (stF ks (i + 1))).toArray) rfl rfl rfl sz4 rfl (by simp; omega) (by
            rw [bls_set]
            congr 1
            unfold bls
            apply List.map_congr_left
            intro x hx
            have hx := List.mem_range.1 hx
            congr 1
            unfold updB stF
            rw [List.take_add_one, hk]
            by_cases h : x = k.toNat
            · rw [if_pos h]
              exact (decide_eq_true (by rw [List.mem_append]; right; simp; omega)).symm
            · rw [if_neg h]
              have : ¬ (x : Int) = k := by omega
              simp [this])) ?_
          refine Seq.nil ?_
          refine Fin.inBlock ?_
          refine Fin.then ?_
          refine DC.region ?_
          refine Zp ?_
          refine Zm ?_
          refine Seq.nil ?_
          refine Fin.again (i + 1) (by omega) (by omega) ⟨rfl, rfl, rfl, rfl, rfl, rfl, trivial⟩ (Pick.all _)
    · refine DC.exit ?_
      refine Fin.exit_then <| Fin.exit_then <| Fin.exit_here <| ?_
      refine Fin.then ?_
      refine DC.seq ?_
      have hie : i = ks.length := by simp at c5; omega
      subst hie
      have hkl := kp_len (stF ks ks.length) es 0
      have hsub := kp_sub (stF ks ks.length) es 0
      refine DC.flow (cl := [.q, .v, .v, .q, .r, .r, .g, .q]) (A := [0, 1, 0, 0, 12, 31, 63, 127]) (order := [0, 1, 2, 3, 4, 5, 6, 7]) [] mixed (by kernel_rfl) (fun w hw => hw.pick .nil) ?_
      refine Yf fi24_0 ?_
      refine Yl ag3 ?_
      refine Flow.valS rfl rfl rfl rfl (v_loads (vs := [_, _]) rfl rfl ag24 sz24 rfl (hass_blk rfl)) ?_
      refine Flow.pur rfl rfl rfl (p_func rfl rfl rfl) ?_
      refine Flow.relS rfl rfl rfl rfl (r_call en123 rfl rfl rfl (fun w' hw => kept_calls (hg0.keep0 hw) (hw.holds _ (List.mem_cons_self ..)) (hw.holds _ (List.mem_cons_of_mem _ (List.mem_cons_self ..))) (by omega))) ?_
      rintro v40 _ rfl
      refine Flow.rel' (V := (slc v40 43 2 (prs (kp (stF ks ks.length) 0 es)) :: [blk g6 188 #[.slice (some ⟨g16, 0, none⟩) es.length es.length], blk g16 4 (bls es.length (stF ks ks.length)).toArray, blk g4 24 #[.int .i64 0, .slice none 0 0], blk g2 24 #[.int .i64 n, .slice A es.length cap]])) rfl rfl rfl rfl (by kernel_rfl) (r_call en122 rfl rfl rfl (fun w' hw => made_calls (prv_own hw 0 rfl (by omega)) ((vld_pairwise hV).sublist hsub) (fun e he => by
        obtain ⟨j, hj⟩ := List.mem_iff_getElem?.1 (hsub.subset he)
        exact (hV.ok j e hj).lt) (by omega))) ?_
      rintro _ _ ⟨Av, l, c, rfl, rfl⟩
      refine Flow.sto (V := (slc (.slice Av l c) 43 2 (prs (kp (stF ks ks.length) 0 es)) :: slc v40 43 2 (prs (kp (stF ks ks.length) 0 es)) :: [blk g6 188 #[.slice (some ⟨g16, 0, none⟩) es.length es.length], blk g16 4 (bls es.length (stF ks ks.length)).toArray, blk g4 24 #[.int .i64 0, .slice none 0 0], blk g2 24 #[.int .i64 n, .slice A es.length cap]])) rfl rfl rfl rfl rfl (s_stores (cs' := #[_, _]) rfl rfl rfl sz24 rfl (Nat.le_of_ble_eq_true rfl) rfl) (fun w hw => hw.pick (.nil)) ?_
      refine Flow.pur rfl rfl rfl (p_assign rfl rfl) ?_
      refine Flow.end rfl ?_
      simp only [List.map_cons, List.map_nil, List.nil_append, List.cons_append, List.append_nil]
      refine Fin.then ?_
      refine DC.ret ?_
      refine Fin.endct (cs := #[_, _]) (.inl rfl) rfl rfl rfl ag24 sz24 ?_
      exact ⟨[slc (.slice Av l c) 43 2 (prs (kp (stF ks ks.length) 0 es))], fun w hw => hw.pick (.cons 0 rfl .nil), Av, l, c, rfl, rfl⟩
end Go.Fl

set_option linter.unusedVariables false
set_option linter.unusedSimpArgs false
set_option maxRecDepth 100000
namespace Go.Fl
open Go Go.Proofs
theorem lex_ext : ∀ {a b : List Pr}, a.Pairwise Lex → b.Pairwise Lex → (∀ x, x ∈ a ↔ x ∈ b) → a = b
  | [], [], _, _, _ => rfl
  | [], y :: r, _, _, h => by have := (h y).2 (by simp); cases this
  | x :: r, [], _, _, h => by have := (h x).1 (by simp); cases this
  | x :: r, y :: s, ha, hb, h => by
    have irr : ∀ z : Pr, ¬ Lex z z := fun z hz => by unfold Lex at hz; omega
    have tr : ∀ {u v w : Pr}, Lex u v → Lex v w → Lex u w := fun h1 h2 => by unfold Lex at *; omega
    rw [List.pairwise_cons] at ha hb
    have hxy : x = y := by
      rcases List.mem_cons.1 ((h x).1 (by simp)) with h1 | h1
      · exact h1
      · rcases List.mem_cons.1 ((h y).2 (by simp)) with h2 | h2
        · exact h2.symm
        · exact absurd (tr (hb.1 x h1) (ha.1 y h2)) (irr y)
    subst hxy
    congr 1
    refine lex_ext ha.2 hb.2 fun z => ?_
    constructor
    · intro hz
      rcases List.mem_cons.1 ((h z).1 (by simp [hz])) with h1 | h1
      · subst h1; exact absurd (ha.1 z hz) (irr z)
      · exact h1
    · intro hz
      rcases List.mem_cons.1 ((h z).2 (by simp [hz])) with h1 | h1
      · subst h1; exact absurd (hb.1 z hz) (irr z)
      · exact h1
theorem vld_sub {n : Int} {es cs : List Pr} (hV : Vld n es) (hc : EdgesOk cs) (hin : ∀ c, c ∈ cs → c ∈ es) : Vld n cs :=
  ⟨hV.lo, hV.hi, hc.few, fun i e he => by
    obtain ⟨j, hj⟩ := List.mem_iff_getElem?.1 (hin e (List.mem_of_getElem? he))
    exact hV.ok j e hj, hc.up⟩
theorem sub_is {n : Int} {es cs : List Pr} {ns : List Int} (hV : Vld n es) (hc : EdgesOk cs) (hin : ∀ c, c ∈ cs → c ∈ es) (hn : NumR es cs ns) : kp (stF ns ns.length) 0 es = cs := by
  refine lex_ext ((vld_pairwise hV).sublist (kp_sub _ _ _)) (vld_pairwise (vld_sub hV hc hin)) fun e => ?_
  rw [kp_mem]
  unfold stF
  rw [List.take_length]
  constructor
  · rintro ⟨i, hi, hfi⟩
    have hm : (i : Int) ∈ ns := by simpa using hfi
    obtain ⟨j, hj⟩ := List.mem_iff_getElem?.1 hm
    obtain ⟨c, hcj⟩ : ∃ c, cs[j]? = some c := ⟨_, List.getElem?_eq_getElem (by rw [← hn.1]; exact (List.getElem?_eq_some_iff.1 hj).1)⟩
    rcases hn.2 j c _ hcj hj with ⟨h1, _⟩ | ⟨i', h1, h2⟩
    · omega
    · have : i' = i := by omega
      subst this
      rw [hi] at h2; cases h2
      exact List.mem_of_getElem? hcj
  · intro he
    obtain ⟨j, hj⟩ := List.mem_iff_getElem?.1 he
    obtain ⟨m, hm⟩ : ∃ m, ns[j]? = some m := ⟨_, List.getElem?_eq_getElem (by rw [hn.1]; exact (List.getElem?_eq_some_iff.1 hj).1)⟩
    rcases hn.2 j e m hj hm with ⟨_, h1⟩ | ⟨i, h1, h2⟩
    · exact absurd (hin e he) h1
    · subst h1
      exact ⟨i, h2, by simpa using List.mem_of_getElem? hm⟩
theorem proves_calls {pl : Bool} {n : Nat} {es cs : List Pr} {va v u : Value} {w : World} (hg : PrV w va es) (hu : PrV w u cs) (hV : Vld n es) (hc : EdgesOk cs) (hin : ∀ c, c ∈ cs → c ∈ es) :
    Calls Tryz.prog 59 #[.agg #[.int .i64 n, va], .agg #[.bool pl, v, u]] w (Ret w [] fun r M => M = [] ∧ ∃ b, r = .bool b ∧ (b = true ↔ KuraOk n cs)) := by
  have hVc := vld_sub hV hc hin
  have hfew := hVc.few
  have hfe := hV.few
  refine calls_of (args := [_, _]) (L := []) Tryz.func59 rfl Tryz.ntmps59 rfl (Own.start _ _) ?_
  refine Zs ?_
  refine Seq.new rfl rfl (n_box rfl rfl rfl) fun g2 => ?_
  refine Seq.new rfl rfl (n_box rfl rfl rfl) fun g3 => ?_
  refine Za ?_
  refine Zx ?_
  refine DC.seq ?_
  refine DC.flow (cl := [.v, .v, .v, .r, .r, .q, .q, .q, .n, .g, .q]) (A := [0, 0, 0, 6, 15, 31, 63, 63, 0, 383, 1023]) (order := [0, 1, 2, 3, 4, 5, 6, 7, 8, 9, 10]) [] mixed (by kernel_rfl) (fun w hw => hw.pick .nil) ?_
  refine Flow.valS rfl rfl rfl rfl (v_loads (vs := [_, _]) rfl rfl ag24 sz24 rfl (hass_blk rfl)) ?_
  refine Flow.valS rfl rfl rfl rfl (v_loads (vs := [_, _]) rfl rfl ag24 sz24 rfl (hass_blk rfl)) ?_
  refine Flow.valS rfl rfl rfl rfl (v_loads (vs := [_, _, _]) rfl rfl ag27 sz27 rfl (hass_blk rfl)) ?_
  refine Flow.relS rfl rfl rfl rfl (r_call en96 rfl rfl rfl (fun w' hw => numbers2_calls (hg.keep0 hw) (hu.keep0 hw))) ?_
  rintro _ _ ⟨gn, ns, rfl, hn, rfl⟩
  refine Flow.rel' (V := (blk gn 3 (ints ns).toArray :: [blk g3 27 #[.bool pl, v, u], blk g2 24 #[.int .i64 n, va]])) rfl rfl rfl rfl (by kernel_rfl) (r_call en97 rfl rfl rfl (fun w' hw => Sub_calls (hg.keep0 hw) hV (slv_blk hw (by simp) hn.1 (by omega)) (fun k hk => by
    obtain ⟨j, hj⟩ := List.mem_iff_getElem?.1 hk
    obtain ⟨c, hcj⟩ : ∃ c, cs[j]? = some c := ⟨_, List.getElem?_eq_getElem (by rw [← hn.1]; exact (List.getElem?_eq_some_iff.1 hj).1)⟩
    rcases hn.2 j c _ hcj hj with ⟨_, h1⟩ | ⟨i, h1, h2⟩
    · exact absurd (hin c (List.mem_of_getElem? hcj)) h1
    · have := (List.getElem?_eq_some_iff.1 h2).1; omega))) ?_
  rintro _ _ ⟨Av, l, c, rfl, rfl⟩
  rw [sub_is hV hc hin hn]
  refine Ym ?_
  refine Flow.pur rfl rfl rfl (p_extract rfl rfl rfl) ?_
  refine Flow.pur rfl rfl rfl (p_extract rfl rfl rfl) ?_
  refine Flow.new' rfl rfl rfl rfl (n_alloc rfl ze24 rfl) fun g5 => ?_
  refine Flow.sto (V := (blk g5 24 #[.int .i64 0, .slice none 0 0] :: slc (.slice Av l c) 43 2 (prs cs) :: blk gn 3 (ints ns).toArray :: [blk g3 27 #[.bool pl, v, u], blk g2 24 #[.int .i64 n, va]])) rfl rfl rfl rfl rfl (s_stores (cs' := #[_, _]) rfl rfl rfl sz24 rfl (Nat.le_of_ble_eq_true rfl) rfl) (fun w hw => hw.pick (.nil)) ?_
  refine Flow.pur rfl rfl rfl (p_assign rfl rfl) ?_
  refine Flow.end rfl ?_
  simp only [List.map_cons, List.map_nil, List.nil_append, List.cons_append, List.append_nil]
  refine Fin.then ?_
  refine DC.seq ?_
  refine Zs ?_
  refine Zm ?_
  refine Seq.pur rfl rfl (p_neq rfl rfl rfl) ?_
  refine Zx ?_
  refine DC.cond rfl (fun c2 => ?_) (fun c2 => ?_)
  · refine Zs ?_
    refine Za ?_
    refine Zx ?_
    refine DC.ret ?_
    refine Fin.ret_then <| ?_
    refine Fin.end1 (.inl rfl) rfl rfl ?_
    simp at c2
  · refine DC.skip ?_
    refine Fin.then ?_
    refine Zs ?_
    refine Seq.val rfl rfl (v_loads (vs := [_, _]) rfl rfl ag24 sz24 rfl (hass_blk rfl)) ?_
    refine Seq.rel0 rfl rfl (r_call en98 rfl rfl rfl (fun w' hw => Recognise_calls (prv_own hw 1 rfl (by omega)) hVc)) ?_
    rintro _ ⟨k0, A0, l0, c0, A1, l1, c1, b, rfl, hb⟩
    refine Zm ?_
    refine Ze ?_
    refine Ze ?_
    refine Ze ?_
    refine Seq.new rfl rfl (n_alloc rfl ze77 rfl) fun g7 => ?_
    refine Seq.sto rfl rfl (s_stores (cs' := #[_, _, _]) rfl rfl rfl sz77 rfl (Nat.le_of_ble_eq_true rfl) rfl) ?_
    refine Za ?_
    refine Za ?_
    refine Zx ?_
    refine Zs ?_
    refine Zm ?_
    refine Za ?_
    refine Zx ?_
    refine DC.ret ?_
    refine Fin.weak (E' := [(4, _)]) ⟨rfl, trivial⟩ .nil ?_
    refine Fin.end1 (.inl rfl) rfl rfl ?_
    exact ⟨rfl, b, rfl, hb⟩
end Go.Fl

set_option linter.unusedVariables false
set_option linter.unusedSimpArgs false
set_option linter.unusedSectionVars false
namespace Go.Fl
open Go
abbrev byc (l : List UInt8) : List Value := Lib.byteCells l
theorem byc_app (a b : List UInt8) : byc (a ++ b) = byc a ++ byc b := by simp [byc, Lib.byteCells]
@[simp] theorem byc_len (l : List UInt8) : (byc l).length = l.length := Lib.byteCells_length l
theorem byc_one (a : List UInt8) : ∀ u, u ∈ byc a → u.oneCell' = true := by
  intro u hu
  simp [byc, Lib.byteCells] at hu
  obtain ⟨x, _, rfl⟩ := hu; rfl
theorem byc_get {l : List UInt8} {i : Nat} {b : UInt8} (h : l[i]? = some b) : (byc l)[i]? = some (.int .u8 b.toNat) := by simp [byc, Lib.byteCells, h]
section
variable {P : Program} {w0 w : World} {K : List Nat} {n : Nat} {ds : List Deferred} {E : Env} {L F : List Chunk} {o : Oper} {x y z : Operand} {v u : Value}
theorem strCells_str (l : List UInt8) : Lib.strCells ⟨l.toArray⟩ = byc l := rfl
theorem size_str (l : List UInt8) : (⟨l.toArray⟩ : ByteArray).size = l.length := by simp [ByteArray.size]
/-- append of a string's bytes to bytes of ours. -/
theorem g_append_str {t u e : Nat} {bs : List Value} {l : List UInt8} (ho : o.op = .call ⟨.builtin .append, #[x, y], #[t, u]⟩) (hx : ev n E x = some v) (hy : ev n E y = some (str l))
    (ht : P.underlying t = some (.slice e)) (hu : P.underlying u = some .string) (hm : sizeT P e = some 1) (hb : bytesT P e = some 1) (hz : zeroT P e = some (.int .u8 0))
    (hown : ∀ w, Own w0 K w L → Own w0 K w (slc v e 1 bs :: F)) (hfit : bs.length + l.length ≤ 140737488355328) : Gen P w0 K n ds E L o (fun v' M => M = slc v' e 1 (bs ++ byc l) :: F) := by
  intro a w ha hw
  obtain ⟨i, hi, e1, e2, e3⟩ := info_of hm hb hz
  have hw' := hown w hw
  have hlen : (bs ++ byc l).length = (bs.length + l.length) * 1 := by rw [List.length_append, byc_len, Nat.mul_one]
  have hF : Own w0 K w F := hw'.sub (List.sublist_cons_self ..)
  have hrun : ∀ v' w1, (Builtin.append_ #[t, u] o.type #[v, str l]).run P w = .ok v' w1 → Own w0 K w1 (slc v' e 1 (bs ++ byc l) :: F) →
      RunsTo P (execOp a.eval o) w (fun v w' => ∃ L', L' = slc v e 1 (bs ++ byc l) :: F ∧ Own w0 K w' L') := by
    intro v' w1 hr hO
    unfold RunsTo
    have : (execOp a.eval o).run P w = .ok (.value v') w1 := by
      simp [execOp, ho, resolve, ha.ev hx, ha.ev hy, invoke, builtin, hr]
    rw [this]
    exact ⟨_, rfl, hO⟩
  rcases own_open hw' with ⟨rfl, rfl, _⟩ | ⟨g, len, cap, sp, rfl, h1, h2, h3, h4, hO⟩
  · by_cases h0 : l.length = 0
    · have hl0 : l = [] := List.eq_nil_of_length_eq_zero h0
      subst hl0
      refine hrun (.slice none 0 0) w ?_ hw'
      simp [Builtin.append_, run_underlying ht, run_underlying hu, sizeOf, typeInfo, hi, Builtin.lenOf, Builtin.firstCells, str, storeCells]
      rw [if_pos (show (⟨#[]⟩ : ByteArray) = ByteArray.empty from rfl)]; rfl
    · have hr := run_append_nil_string (P := P) w t u o.type e i (.int .u8 0) ht hu hi e3 ⟨l.toArray⟩ (by rw [size_str]; omega) (by rw [size_str]; simp at hfit; omega) (by rw [size_str, e2]; simp at hfit; omega)
      rw [size_str] at hr
      refine hrun _ _ hr ?_
      have hA := (hF.drew).alloc e ((⟨l.toArray⟩ : ByteArray).data.map (fun b => Value.int .u8 b.toNat) ++ Builtin.zeroCells (Value.int .u8 0).cells (grownCap w l.length 0 e - l.length))
      have hge := grownCap_ge w l.length 0 e
      have hle := grownCap_le_maxLen w l.length 0 e (by simp only [maxLen]; simp at hfit; omega)
      refine own_slc (vs := [] ++ byc l) (m := 1) (len := l.length) (by simp) (by decide) hge (by simp only [maxLen] at hle; omega) ?_ ?_ hA
      · simp [size_zeroCells, Value.cells]; omega
      · simp [byc, Lib.byteCells]
  · rw [Nat.mul_one] at h1
    subst h1
    have hg := hO.holds _ (List.mem_cons_self ..)
    by_cases hroom : bs.length + l.length ≤ cap
    · have hr := Lib.run_append_room_string (P := P) w t u o.type e i ht hu hi e1 g bs.length cap (bs ++ sp).toArray hg ⟨l.toArray⟩ (by rw [size_str]; omega) (by rw [size_str]; simp at h4 ⊢; omega)
      rw [size_str] at hr
      refine hrun _ _ hr ?_
      have hS := heap_setRow w g (bs ++ sp).toArray ((bs ++ sp).toArray.toList.take bs.length ++ Lib.strCells ⟨l.toArray⟩ ++ (bs ++ sp).toArray.toList.drop (bs.length + l.length)).toArray e hg
      have hO2 : Own w0 K _ (blk g e _ :: F) := Own.frame (Lc := [blk g e (bs ++ sp).toArray]) hO hS (fun k hk => by simp [blk] at hk ⊢; exact hk)
      refine own_slc hlen (by decide) hroom h3 ?_ ?_ hO2
      · simp [Lib.strCells_length, size_str] at h4 ⊢; omega
      · simp only [List.toList_toArray, List.take_left' rfl, strCells_str, ← hlen]
    · have hr := Lib.run_append_grow_string (P := P) w t u o.type e i (.int .u8 0) ht hu hi e3 ⟨g, 0, none⟩ bs.length cap bs (by rw [e1, Nat.mul_one])
        (by
          intro j q hj
          rw [add_at0, cell_of_row w g _ _ e (0, 0) hg]
          have hjl := (List.getElem?_eq_some_iff.1 hj).1
          simpa [List.getElem?_append_left hjl] using hj) ⟨l.toArray⟩ (by rw [size_str]; omega) (by rw [size_str]; omega) (by rw [size_str]; exact growslice_fits (by omega) (by rw [e2]; omega))
      rw [size_str] at hr
      refine hrun _ _ hr ?_
      have hA := (hF.drew).alloc e (bs.toArray ++ (Lib.strCells ⟨l.toArray⟩).toArray ++ Builtin.zeroCells (Value.int .u8 0).cells (grownCap w (bs.length + l.length) cap e - (bs.length + l.length)))
      have hge := grownCap_ge w (bs.length + l.length) cap e
      have hle := grownCap_le_maxLen w (bs.length + l.length) cap e (by simp only [maxLen]; omega)
      refine own_slc hlen (by decide) hge (by simp only [maxLen] at hle; omega) ?_ ?_ hA
      · simp [size_zeroCells, Value.cells, Lib.strCells_length, size_str]; omega
      · simp only [strCells_str, Array.toList_append, List.toList_toArray]
        rw [← hlen]
        exact List.take_left
/-- Bytes, seen as a string. -/
theorem v_bytes_str {src dst e len cap : Nat} {ad : Addr} {l : List UInt8} (ho : o.op = .convert src dst x) (hx : ev n E x = some (.slice (some ad) len cap)) (hl : l.length = len) (hs : P.underlying src = some (.slice e)) (he : P.underlying e = some (.int .u8)) (hd : P.underlying dst = some .string)
    (h : Hass w0 K L ad (byc l)) : Val P w0 K n ds E L o (str l) := by
  intro a w ha hw
  subst hl
  have := run_convert_bytes_back (P := P) w src dst e ad cap l hs he hd (fun j hj => h w hw j _ (byc_get (List.getElem?_eq_getElem hj)))
  simp [execOp, ho, ha.ev hx, this, str]
theorem p_conv_u8 {src dst : Nat} {i : Int} (ho : o.op = .convert src dst x) (hx : ev n E x = some (.int .i64 i)) (hs : P.underlying src = some (.int .i64)) (hd : P.underlying dst = some (.int .u8)) (h0 : 0 ≤ i) (h1 : i < 256) :
    Pur P n ds E o (.int .u8 i) := by
  intro a w ha
  have hk : P.intKind dst = .u8 := by simp [Program.intKind, hd]
  have := run_convert_int (P := P) w src dst .i64 i (by rw [hs]; rfl) (by rw [hk]; exact hd)
  rw [hk] at this
  have hw : IntKind.u8.wrap i = i := by
    unfold IntKind.wrap
    simp [IntKind.bits, IntKind.signed]
    omega
  rw [hw] at this
  simp [execOp, ho, ha.ev hx, this]
theorem hass_slcV {i t l c : Nat} {ad : Addr} {vs : List Value} (hi : L[i]? = some (slc (.slice (some ad) l c) t 1 vs)) : Hass w0 K L ad vs := by
  intro w hw j u hj
  obtain ⟨A, len, cap, e, _, hr, _⟩ := rd_own (hw.perm (perm_eraseIdx hi).symm)
  cases e
  obtain ⟨ad', e, hc⟩ := hr j u hj
  cases e; exact hc
end
theorem join_nil : Lib.join [] [32] = [] := rfl
theorem join_snoc : ∀ (xs : List (List UInt8)) (x : List UInt8), Lib.join (xs ++ [x]) [32] = if xs = [] then x else Lib.join xs [32] ++ [32] ++ x
  | [], x => by simp [Lib.join, List.intercalate]
  | [y], x => by simp [Lib.join, List.intercalate, List.intersperse]
  | y :: z :: r, x => by
    have ih := join_snoc (z :: r) x
    have e1 : Lib.join (y :: z :: r ++ [x]) [32] = y ++ [32] ++ Lib.join (z :: r ++ [x]) [32] := by simp [Lib.join, List.intercalate, List.intersperse]
    have e2 : Lib.join (y :: z :: r) [32] = y ++ [32] ++ Lib.join (z :: r) [32] := by simp [Lib.join, List.intercalate, List.intersperse]
    rw [e1, ih, e2]
    simp
theorem flat_len {B : Nat} : ∀ {L : List (List UInt8)}, (∀ l, l ∈ L → l.length ≤ B) → L.flatten.length ≤ L.length * B
  | [], _ => by simp
  | l :: r, h => by
    have := flat_len (L := r) fun x hx => h x (by simp [hx])
    have h1 := h l (by simp)
    simp only [List.flatten_cons, List.length_append, List.length_cons, Nat.succ_mul]
    omega
end Go.Fl

set_option linter.unusedVariables false
set_option linter.unusedSimpArgs false
set_option linter.unusedSectionVars false
namespace Go.Fl
open Go
/-- A slice of bytes that reads so. -/
def ByV (w : World) (v : Value) (bs : List UInt8) : Prop :=
  ∃ A cap, v = .slice A bs.length cap ∧ Rd w A (byc bs) ∧ bs.length ≤ cap ∧ cap ≤ 9223372036854775807
section
variable {w0 w : World} {K : List Nat} {L : List Chunk} {v : Value} {bs : List UInt8}
theorem ByV.keepK (h : ByV w0 v bs) (hk : ∀ ad l c, v = .slice (some ad) l c → ad.block ∉ K) (hw : Own w0 K w L) : ByV w v bs := by
  obtain ⟨A, cap, rfl, hr, h1, h2⟩ := h
  exact ⟨A, cap, rfl, hr.keep (fun ad e => hk ad _ _ (by rw [e])) hw, h1, h2⟩
theorem ByV.keep0 (h : ByV w0 v bs) (hw : Own w0 [] w L) : ByV w v bs := h.keepK (fun _ _ _ _ => by simp) hw
theorem Rd.byte {A : Option Addr} {i : Nat} {x : UInt8} (h : Rd w0 A (byc bs)) (hi : bs[i]? = some x) : ∃ ad, A = some ad ∧ w0.cell? (ad.add i) = some (.int .u8 x.toNat) := h _ _ (byc_get hi)
theorem ByV.at (h : ByV w0 v bs) {i : Nat} {x : UInt8} (hi : bs[i]? = some x) : ∃ ad cap, v = .slice (some ad) bs.length cap ∧ w0.cell? (ad.add i) = some (.int .u8 x.toNat) := by
  obtain ⟨A, cap, rfl, hr, _⟩ := h
  obtain ⟨ad, rfl, hc⟩ := hr.byte hi
  exact ⟨ad, cap, rfl, hc⟩
theorem byv_own {t : Nat} (hw : Own w0 K w L) (i : Nat) (h : L[i]? = some (slc v t 1 (byc bs))) : ByV w v bs := by
  have hp := perm_eraseIdx h
  obtain ⟨A, len, cap, rfl, h1, hr, h2, h3⟩ := rd_own (hw.perm hp.symm)
  simp at h1; subst h1
  exact ⟨A, cap, rfl, hr, h2, h3⟩
end
/-- Bytes that no block of K holds. -/
def ByO (v : Value) (bs : List UInt8) (K : List Nat) : Prop := bs ≠ [] → ∀ ad l c, v = .slice (some ad) l c → ad.block ∉ K
section
variable {w0 w : World} {K : List Nat} {L : List Chunk} {v : Value} {bs : List UInt8}
theorem ByV.keep (h : ByV w0 v bs) (ho : ByO v bs K) (hw : Own w0 K w L) : ByV w v bs := by
  by_cases he : bs = []
  · subst he
    obtain ⟨A, cap, rfl, hr, h1, h2⟩ := h
    exact ⟨A, cap, rfl, fun j u hj => by simp [byc, Lib.byteCells] at hj, h1, h2⟩
  · exact h.keepK (ho he) hw
theorem ByO.step (h : ByV w0 v bs) (ho : ByO v bs K) (hw : Own w0 K w L) : ByO v bs (idsOf L) := by
  intro he ad l c hva hin
  obtain ⟨A, cap, rfl, hr, h1, h2⟩ := h
  cases hva
  obtain ⟨e, he0⟩ : ∃ e, bs[0]? = some e := ⟨_, List.getElem?_eq_getElem (List.length_pos_iff.2 he)⟩
  obtain ⟨ad', ha, hc⟩ := hr.byte he0
  cases ha
  have hlt := World.block_lt_of_cell? w0 _ hc
  have hb : (ad.add 0).block = ad.block := by unfold Addr.add; split <;> rfl
  rw [hb] at hlt
  rcases hw.fresh _ hin with h5 | h5
  · exact ho he ad _ _ rfl h5
  · omega
theorem ByV.has {ad : Addr} {l c i : Nat} {x : UInt8} (h : ByV w0 (.slice (some ad) l c) bs) (ho : ByO (.slice (some ad) l c) bs K) (hi : bs[i]? = some x) : Has w0 K L (ad.add i) (.int .u8 x.toNat) := by
  intro w hw
  obtain ⟨ad', cap, e, hc⟩ := (h.keep ho hw).at hi
  cases e; exact hc
theorem ByV.len (h : ByV w0 v bs) : ∃ A c, v = .slice A bs.length c := by
  obtain ⟨A, c, e, _⟩ := h; exact ⟨A, c, e⟩
end
structure Tk where
  kd : Int
  fr : Int
  en : Int
  nu : Int
def tks : List Tk → List Value
  | [] => []
  | t :: r => .int .i64 t.kd :: .int .i64 t.fr :: .int .i64 t.en :: .int .i64 t.nu :: tks r
@[simp] theorem tks_length (l : List Tk) : (tks l).length = l.length * 4 := by
  induction l with
  | nil => rfl
  | cons e r ih => simp [tks, ih, Nat.succ_mul]
theorem tks_append (a b : List Tk) : tks (a ++ b) = tks a ++ tks b := by
  induction a with
  | nil => rfl
  | cons e r ih => simp [tks, ih]
theorem tks_one : ∀ (l : List Tk) u, u ∈ tks l → u.oneCell' = true
  | [], u, h => by cases h
  | e :: r, u, h => by
    simp [tks] at h
    rcases h with rfl | rfl | rfl | rfl | h
    · rfl
    · rfl
    · rfl
    · rfl
    · exact tks_one r u h
theorem tks_get : ∀ {l : List Tk} {i : Nat} {t : Tk}, l[i]? = some t → (tks l)[i * 4]? = some (.int .i64 t.kd) ∧ (tks l)[i * 4 + 1]? = some (.int .i64 t.fr) ∧ (tks l)[i * 4 + 2]? = some (.int .i64 t.en) ∧ (tks l)[i * 4 + 3]? = some (.int .i64 t.nu)
  | [], i, e, h => by simp at h
  | x :: r, 0, e, h => by simp at h; subst h; simp [tks]
  | x :: r, i + 1, e, h => by
    simp at h
    have := tks_get h
    rw [Nat.succ_mul]
    exact ⟨by simpa [tks] using this.1, by simpa [tks] using this.2.1, by simpa [tks] using this.2.2.1, by simpa [tks] using this.2.2.2⟩
def isDig (b : UInt8) : Bool := decide (48 ≤ b.toNat) && decide (b.toNat ≤ 57)
/-- How many digits stand ahead. -/
def digs : List UInt8 → Nat
  | [] => 0
  | b :: r => if isDig b then digs r + 1 else 0
theorem digs_le : ∀ l : List UInt8, digs l ≤ l.length
  | [] => by simp [digs]
  | b :: r => by unfold digs; split <;> have := digs_le r <;> simp <;> omega
def decF (l : List UInt8) : Int := l.foldl (fun n b => 10 * n + ((b.toNat : Int) - 48)) 0
theorem decF_snoc (l : List UInt8) (b : UInt8) : decF (l ++ [b]) = 10 * decF l + ((b.toNat : Int) - 48) := by simp [decF]
/-- What a scan answers: the tokens, or the place and the number of what is wrong. -/
inductive ScA where
  | ok (l : List Tk)
  | bad (at' err : Int)
def scanF (at' : Nat) (l : List UInt8) (acc : List Tk) : ScA :=
  match l with
  | [] => .ok (acc ++ [⟨3, at', at', 0⟩])
  | c :: r =>
    if isDig c then
      if 9 < digs (c :: r) ∨ (1 < digs (c :: r) ∧ c.toNat = 48) then .bad at' 12
      else scanF (at' + (digs r + 1)) (r.drop (digs r)) (acc ++ [⟨1, at', (at' + (digs r + 1) : Nat), decF ((c :: r).take (digs (c :: r)))⟩])
    else if c.toNat = 10 then scanF (at' + 1) r (acc ++ [⟨2, at', (at' + 1 : Nat), 0⟩])
    else if c.toNat = 32 ∨ c.toNat = 9 ∨ c.toNat = 13 then scanF (at' + 1) r acc
    else .bad at' 11
termination_by l.length
decreasing_by all_goals simp <;> omega
def scanA (bs : List UInt8) : ScA := if 33554432 < bs.length then .bad 33554432 10 else scanF 0 bs []
theorem digs_drop {bs : List UInt8} {i : Nat} {c : UInt8} (h : bs[i]? = some c) (hd : isDig c = true) : digs (bs.drop i) = digs (bs.drop (i + 1)) + 1 := by
  have hl := (List.getElem?_eq_some_iff.1 h).1
  rw [List.drop_eq_getElem_cons hl]
  have e : bs[i] = c := (List.getElem?_eq_some_iff.1 h).2
  rw [e]; simp [digs, hd]
theorem digs_end {bs : List UInt8} {i : Nat} (h : ∀ c, bs[i]? = some c → isDig c = false) : digs (bs.drop i) = 0 := by
  by_cases hl : i < bs.length
  · rw [List.drop_eq_getElem_cons hl]
    have := h _ (List.getElem?_eq_getElem hl)
    simp [digs, this]
  · rw [List.drop_eq_nil_of_le (by omega)]; rfl
/-- digits: from i to j all are. -/
theorem digs_run {bs : List UInt8} : ∀ (k i : Nat), (∀ j, i ≤ j → j < i + k → ∃ c, bs[j]? = some c ∧ isDig c = true) → digs (bs.drop i) = k + digs (bs.drop (i + k))
  | 0, i, h => by simp
  | k + 1, i, h => by
    obtain ⟨c, h1, h2⟩ := h i (Nat.le_refl _) (by omega)
    rw [digs_drop h1 h2, digs_run k (i + 1) (fun j h3 h4 => h j (by omega) (by omega)), show i + 1 + k = i + (k + 1) by omega]
    omega
theorem scanF_end {bs : List UInt8} {i : Nat} {acc : List Tk} (h : bs.length ≤ i) (hi : i ≤ bs.length) : scanF i (bs.drop i) acc = .ok (acc ++ [⟨3, i, i, 0⟩]) := by
  rw [List.drop_eq_nil_of_le h]; simp [scanF]
theorem scanF_num {bs : List UInt8} {i k : Nat} {c : UInt8} {acc : List Tk} (h : bs[i]? = some c) (hd : isDig c = true) (hk : digs (bs.drop i) = k) (h9 : k ≤ 9) (h0 : ¬(1 < k ∧ c.toNat = 48)) :
    scanF i (bs.drop i) acc = scanF (i + k) (bs.drop (i + k)) (acc ++ [⟨1, i, (i + k : Nat), decF ((bs.drop i).take k)⟩]) := by
  have hl := (List.getElem?_eq_some_iff.1 h).1
  have e : bs[i] = c := (List.getElem?_eq_some_iff.1 h).2
  have hk' := digs_drop h hd
  have e2 : bs.drop i = c :: bs.drop (i + 1) := by rw [List.drop_eq_getElem_cons hl, e]
  have e3 : digs (bs.drop (i + 1)) + 1 = k := by omega
  have e4 : digs (c :: bs.drop (i + 1)) = k := by rw [← e2]; exact hk
  have e5 : (bs.drop (i + 1)).drop (digs (bs.drop (i + 1))) = bs.drop (i + k) := by rw [List.drop_drop]; congr 1; omega
  rw [e2, scanF, if_pos hd, e4, if_neg (fun h1 => h1.elim (fun h => by omega) h0), e5, e3]
theorem scanF_numbad {bs : List UInt8} {i k : Nat} {c : UInt8} {acc : List Tk} (h : bs[i]? = some c) (hd : isDig c = true) (hk : digs (bs.drop i) = k) (h9 : 9 < k ∨ (1 < k ∧ c.toNat = 48)) :
    scanF i (bs.drop i) acc = .bad i 12 := by
  have hl := (List.getElem?_eq_some_iff.1 h).1
  have e : bs[i] = c := (List.getElem?_eq_some_iff.1 h).2
  have e2 : bs.drop i = c :: bs.drop (i + 1) := by rw [List.drop_eq_getElem_cons hl, e]
  have e4 : digs (c :: bs.drop (i + 1)) = k := by rw [← e2]; exact hk
  rw [e2, scanF, if_pos hd, e4, if_pos h9]
theorem scanF_line {bs : List UInt8} {i : Nat} {c : UInt8} {acc : List Tk} (h : bs[i]? = some c) (hd : isDig c = false) (hc : c.toNat = 10) :
    scanF i (bs.drop i) acc = scanF (i + 1) (bs.drop (i + 1)) (acc ++ [⟨2, i, (i + 1 : Nat), 0⟩]) := by
  have hl := (List.getElem?_eq_some_iff.1 h).1
  have e : bs[i] = c := (List.getElem?_eq_some_iff.1 h).2
  rw [List.drop_eq_getElem_cons hl, e, scanF, if_neg (by simp [hd]), if_pos hc]
theorem scanF_gap {bs : List UInt8} {i : Nat} {c : UInt8} {acc : List Tk} (h : bs[i]? = some c) (hd : isDig c = false) (hc : c.toNat ≠ 10) (h3 : c.toNat = 32 ∨ c.toNat = 9 ∨ c.toNat = 13) :
    scanF i (bs.drop i) acc = scanF (i + 1) (bs.drop (i + 1)) acc := by
  have hl := (List.getElem?_eq_some_iff.1 h).1
  have e : bs[i] = c := (List.getElem?_eq_some_iff.1 h).2
  rw [List.drop_eq_getElem_cons hl, e, scanF, if_neg (by simp [hd]), if_neg hc, if_pos h3]
theorem scanF_bad {bs : List UInt8} {i : Nat} {c : UInt8} {acc : List Tk} (h : bs[i]? = some c) (hd : isDig c = false) (hc : c.toNat ≠ 10) (h3 : ¬(c.toNat = 32 ∨ c.toNat = 9 ∨ c.toNat = 13)) :
    scanF i (bs.drop i) acc = .bad i 11 := by
  have hl := (List.getElem?_eq_some_iff.1 h).1
  have e : bs[i] = c := (List.getElem?_eq_some_iff.1 h).2
  rw [List.drop_eq_getElem_cons hl, e, scanF, if_neg (by simp [hd]), if_neg hc, if_neg h3]
section
variable {P : Program} {n : Nat} {ds : List Deferred} {E : Env} {o : Oper} {x y z : Operand} {v u : Value}
theorem wrap_u8 {i : Int} (h : 0 ≤ i ∧ i < 256) : IntKind.u8.wrap i = i := by
  unfold IntKind.wrap
  simp [IntKind.bits, IntKind.signed]
  omega
theorem p_sub8 {t t' : TypeId} {i j : Int} (ho : o.op = .binOp .sub t x y t') (hx : ev n E x = some (.int .u8 i)) (hy : ev n E y = some (.int .u8 j))
    (hb : 0 ≤ i - j ∧ i - j < 256) : Pur P n ds E o (.int .u8 (i - j)) := p_bin (r := 0) ho hx hy fun w => by simp [binOp, Op.intArith, wrap_u8 hb]
theorem p_conv_int {src dst : Nat} {i : Int} (ho : o.op = .convert src dst x) (hx : ev n E x = some (.int .u8 i)) (hs : P.underlying src = some (.int .u8)) (hd : P.underlying dst = some (.int .i64)) (h0 : 0 ≤ i) (h1 : i < 256) :
    Pur P n ds E o (.int .i64 i) := by
  intro a w ha
  have hk : P.intKind dst = .i64 := by simp [Program.intKind, hd]
  have := run_convert_int (P := P) w src dst .u8 i (by rw [hs]; rfl) (by rw [hk]; exact hd)
  rw [hk, wrap_of (by omega)] at this
  simp [execOp, ho, ha.ev hx, this]
end
end Go.Fl

set_option linter.unusedVariables false
set_option linter.unusedSimpArgs false
set_option linter.unusedSectionVars false
namespace Go.Fl
open Go
section
variable {P : Program} {ops : Array Oper} {w0 w : World} {K : List Nat} {n : Nat} {ds : List Deferred} {E : Env} {L F : List Chunk} {o : Oper} {x y z : Operand} {v u : Value} {Q : Exit → Act → World → Prop}
theorem DC.scope {c : Code} (h : DC P w0 K n ds (Exit.noGoto Q) c E L) : DC P w0 K n ds Q (.scope c) E L := fun a w ha hL => wp_scope_straight (h a w ha hL)
theorem DC.label {l : Nat} (h : Fin w0 K n ds (Q .normal) E L) : DC P w0 K n ds Q (.label l) E L := fun a w ha hL => wp_label (h a w ha hL)
theorem Fin.scope (h : Fin w0 K n ds (Q .normal) E L) : Fin w0 K n ds (Exit.noGoto Q .normal) E L := h
theorem Fin.ret_scope (h : Fin w0 K n ds (Q .ret) E L) : Fin w0 K n ds (Exit.noGoto Q .ret) E L := h
theorem loadAgg {ty : TypeId} {g t : Nat} {cs : Array Value} (hg : w.heap[g]? = some (.cells cs t (0, 0))) (ht : aggT P ty = some true) (hs : sizeT P ty = some cs.size) : (loadVar ty ⟨g, 0, none⟩).run P w = .ok (.agg cs) w := run_cellT hg ht hs
theorem Fin.endcc {fn : Func} {p q : Tmp} {ty ty' : TypeId} {g t g' t' : Nat} {cs cs' : Array Value} {C : Value → List Chunk → Prop} {e : Exit} (he : e = .ret ∨ e = .normal) (hr : fn.results = #[.cell p ty, .cell q ty'])
    (hv : ev n E (.tmp p) = some (.pointer (some ⟨g, 0, none⟩))) (hv' : ev n E (.tmp q) = some (.pointer (some ⟨g', 0, none⟩))) [h : Find L g t cs] [h' : Find L g' t' cs'] (ht : aggT P ty = some true) (hs : sizeT P ty = some cs.size) (ht' : aggT P ty' = some true) (hs' : sizeT P ty' = some cs'.size)
    (hR : ∃ L', (∀ w, Own w0 K w L → Own w0 K w L') ∧ C (.tuple #[.agg cs, .agg cs']) L') : Fin w0 K n [] (bodyPost P fn (Ret w0 K C) e) E L := by
  intro a w ha hO
  obtain ⟨L', hL, hC⟩ := hR
  have hp : a.tmps.getD p undef = .pointer (some ⟨g, 0, none⟩) := by have := ha.ev hv; simpa only [Act.eval] using this
  have hq : a.tmps.getD q undef = .pointer (some ⟨g', 0, none⟩) := by have := ha.ev hv'; simpa only [Act.eval] using this
  have h1 : a.defers = [] ∧ ∃ v, (results fn a.tmps).run P w = .ok v w ∧ Ret w0 K C (.returned v) w :=
    ⟨ha.defers, _, res_cell2 hr hp hq (loadAgg (hO.holds _ h.mem) ht hs) (loadAgg (hO.holds _ h'.mem) ht' hs'), _, L', rfl, hC, hL w hO⟩
  rcases he with rfl | rfl <;> exact h1
/-- A token out of a slice of ours. -/
theorem hass_tk {i j t l c : Nat} {ad : Addr} {tk : List Tk} {k : Tk} (hi : L[i]? = some (slc (.slice (some ad) l c) t 4 (tks tk))) (hj : tk[j]? = some k) :
    Hass w0 K L (ad.add (j * 4)) [.int .i64 k.kd, .int .i64 k.fr, .int .i64 k.en, .int .i64 k.nu] := by
  obtain ⟨h1, h2, h3, h4⟩ := tks_get hj
  intro w hw m u hm
  have hr := hw.perm (perm_eraseIdx hi).symm
  obtain ⟨A, len, cap, e, _, hR, _⟩ := rd_own hr
  cases e
  have key : ∀ {q : Nat} {u : Value}, (tks tk)[j * 4 + q]? = some u → w.cell? ((ad.add (j * 4)).add q) = some u := by
    intro q u hq
    obtain ⟨ad', e, hc⟩ := hR _ _ hq
    cases e
    by_cases h0 : q = 0
    · subst h0
      have : (ad.add (j * 4)).add 0 = ad.add (j * 4) := by simp [Addr.add]
      rw [this]; exact hc
    · rw [add_add _ _ _ (by omega)]; exact hc
  match m, hm with
  | 0, hm => simp at hm; subst hm; exact key h1
  | 1, hm => simp at hm; subst hm; exact key h2
  | 2, hm => simp at hm; subst hm; exact key h3
  | 3, hm => simp at hm; subst hm; exact key h4
theorem has_tk {i j t l c : Nat} {ad : Addr} {tk : List Tk} {k : Tk} (hi : L[i]? = some (slc (.slice (some ad) l c) t 4 (tks tk))) (hj : tk[j]? = some k) (q : Nat) (hq : [Value.int .i64 k.kd, .int .i64 k.fr, .int .i64 k.en, .int .i64 k.nu][q]? = some u) :
    Has w0 K L ((ad.add (j * 4)).add q) u := fun w hw => hass_tk hi hj w hw q u hq
/-- A slice of tokens that reads so. -/
def TkV (w : World) (v : Value) (tk : List Tk) : Prop := ∃ A cap, v = .slice A tk.length cap ∧ Rd w A (tks tk) ∧ tk.length ≤ cap ∧ cap ≤ 9223372036854775807
theorem tkv_own {t : Nat} {tk : List Tk} (hw : Own w0 K w L) (i : Nat) (h : L[i]? = some (slc v t 4 (tks tk))) : TkV w v tk := by
  obtain ⟨A, len, cap, rfl, h1, hr, h2, h3⟩ := rd_own (hw.perm (perm_eraseIdx h).symm)
  simp at h1
  obtain rfl : tk.length = len := by omega
  exact ⟨A, cap, rfl, hr, h2, h3⟩
theorem Rd.tk {A : Option Addr} {tk : List Tk} {i : Nat} {k : Tk} (h : Rd w A (tks tk)) (hi : tk[i]? = some k) : ∃ ad, A = some ad ∧ ∀ (q : Nat) u, [Value.int .i64 k.kd, .int .i64 k.fr, .int .i64 k.en, .int .i64 k.nu][q]? = some u → w.cell? (ad.add (i * 4 + q)) = some u := by
  obtain ⟨h1, h2, h3, h4⟩ := tks_get hi
  obtain ⟨ad, rfl, _⟩ := h _ _ h1
  refine ⟨ad, rfl, fun q u hq => ?_⟩
  have key : ∀ {q : Nat} {u : Value}, (tks tk)[i * 4 + q]? = some u → w.cell? (ad.add (i * 4 + q)) = some u := by
    intro q u hq
    obtain ⟨ad', e, hc⟩ := h _ _ hq
    cases e; exact hc
  match q, hq with
  | 0, hq => simp at hq; subst hq; exact key h1
  | 1, hq => simp at hq; subst hq; exact key h2
  | 2, hq => simp at hq; subst hq; exact key h3
  | 3, hq => simp at hq; subst hq; exact key h4
end
/-! ### lines of a graph's text -/
structure RdS where
  n : Int
  ps : List Pr
  hd : Bool
  m : Int
inductive LnA where
  | ok (s : RdS)
  | bad (c a : Int)
def lineF (s : RdS) (l : List Tk) : LnA :=
  match l with
  | [] => .bad 0 0
  | t :: r =>
    if s.hd = false then
      match r with
      | [u] => if 1048576 < t.nu then .bad 21 t.fr else if 2097152 < u.nu then .bad 22 u.fr else .ok ⟨t.nu, s.ps, true, u.nu⟩
      | _ => .bad 20 t.fr
    else if s.m ≤ (s.ps.length : Int) then .bad 26 t.fr
    else
      match r with
      | [u] => if s.n ≤ t.nu then .bad 24 t.fr else if s.n ≤ u.nu then .bad 24 u.fr else .ok ⟨s.n, s.ps ++ [(t.nu, u.nu)], true, s.m⟩
      | _ => .bad 23 t.fr
/-- The lines of the tokens that are left, l what the line has so far. -/
def feedF (s : RdS) (l : List Tk) : List Tk → LnA
  | [] => .ok s
  | t :: r =>
    if t.kd = 1 then feedF s (l ++ [t]) r
    else
      match (if l = [] then LnA.ok s else lineF s l) with
      | .bad c a => .bad c a
      | .ok s' => if t.kd = 3 then .ok s' else feedF s' [] r
inductive RawA where
  | ok (n : Int) (ps : List Pr)
  | bad (c a : Int)
def endF (k : Nat) : LnA → RawA
  | .bad c a => .bad c a
  | .ok s => if s.hd = false then .bad 20 k else if (s.ps.length : Int) < s.m then .bad 25 k else .ok s.n s.ps
def rawF (bs : List UInt8) : RawA :=
  if 16777216 < bs.length then .bad 10 16777216
  else
    match scanA bs with
    | .bad a e => .bad e a
    | .ok tk => endF bs.length (feedF ⟨0, [], false, 0⟩ [] tk)
theorem feedF_num {s : RdS} {l r : List Tk} {t : Tk} (h : t.kd = 1) : feedF s l (t :: r) = feedF s (l ++ [t]) r := by simp [feedF, h]
theorem feedF_bad {s : RdS} {l r : List Tk} {t : Tk} {c a : Int} (h : t.kd ≠ 1) (hl : l ≠ []) (hb : lineF s l = .bad c a) : feedF s l (t :: r) = .bad c a := by simp [feedF, h, hl, hb]
theorem feedF_end {s s' : RdS} {l r : List Tk} {t : Tk} (h : t.kd ≠ 1) (hl : (l = [] ∧ s' = s) ∨ (l ≠ [] ∧ lineF s l = .ok s')) (h3 : t.kd = 3) : feedF s l (t :: r) = .ok s' := by
  rcases hl with ⟨h1, rfl⟩ | ⟨h1, h2⟩
  · simp [feedF, h1, h3]
  · simp [feedF, h1, h2, h3]
theorem feedF_on {s s' : RdS} {l r : List Tk} {t : Tk} (h : t.kd ≠ 1) (hl : (l = [] ∧ s' = s) ∨ (l ≠ [] ∧ lineF s l = .ok s')) (h3 : t.kd ≠ 3) : feedF s l (t :: r) = feedF s' [] r := by
  rcases hl with ⟨h1, rfl⟩ | ⟨h1, h2⟩
  · simp [feedF, h, h1, h3]
  · simp [feedF, h, h1, h2, h3]
theorem lineF_len {s s' : RdS} {l : List Tk} (h : lineF s l = .ok s') : s'.ps.length ≤ s.ps.length + 1 := by
  unfold lineF at h
  split at h
  · cases h
  split at h
  · split at h
    · split at h
      · cases h
      · split at h
        · cases h
        · cases h; simp
    · cases h
  · split at h
    · cases h
    · split at h
      · split at h
        · cases h
        · split at h
          · cases h
          · cases h; simp
      · cases h
theorem scanF_err : ∀ (k : Nat) (l : List UInt8) (at' : Nat) (acc : List Tk) {a e : Int}, l.length ≤ k → scanF at' l acc = .bad a e → e ≠ 0 := by
  intro k
  induction k with
  | zero =>
    intro l at' acc a e hk h
    rw [List.eq_nil_of_length_eq_zero (by omega : l.length = 0)] at h
    simp [scanF] at h
  | succ k ih =>
    intro l at' acc a e hk h
    match l, hk, h with
    | [], hk, h => simp [scanF] at h
    | c :: r, hk, h =>
      simp at hk
      rw [scanF] at h
      split at h
      · split at h
        · cases h; decide
        · exact ih _ _ _ (by simp; omega) h
      · split at h
        · exact ih _ _ _ hk h
        · split at h
          · exact ih _ _ _ hk h
          · cases h; decide
theorem scanA_err {bs : List UInt8} {a e : Int} (h : scanA bs = .bad a e) : e ≠ 0 := by
  unfold scanA at h
  split at h
  · cases h; decide
  · exact scanF_err _ _ _ _ (Nat.le_refl _) h
section
variable {w0 w : World} {K : List Nat} {F : List Chunk}
theorem own_cut0 {t m len cap : Nat} {A : Option Addr} {vs : List Value} (hm : 0 < m) (hw : Own w0 K w (slc (.slice A len cap) t m vs :: F)) : Own w0 K w (slc (.slice A 0 cap) t m [] :: F) := by
  rcases own_open hw with ⟨e, rfl, _⟩ | ⟨g, len', cap', sp, e, h1, h2, h3, h4, hO⟩
  · cases e; exact hw
  · cases e
    exact own_slc (m := m) (by simp) hm (Nat.zero_le _) h3 (by simp at h4 ⊢; omega) (by simp) hO
theorem own_cutAt {L : List Chunk} {t m len cap : Nat} {A : Option Addr} {vs : List Value} (i : Nat) (hi : L[i]? = some (slc (.slice A len cap) t m vs)) (hm : 0 < m) (hw : Own w0 K w L) : Own w0 K w (slc (.slice A 0 cap) t m [] :: L.eraseIdx i) :=
  own_cut0 hm (hw.perm (perm_eraseIdx hi).symm)
theorem DC.shapeT {P : Program} {n : Nat} {ds : List Deferred} {E : Env} {L : List Chunk} {v : Value} {Q : Exit → Act → World → Prop} {c : Code} {t : Nat} {tk : List Tk} (i : Nat) (hi : L[i]? = some (slc v t 4 (tks tk))) (h : (∃ A c, v = .slice A tk.length c) → DC P w0 K n ds Q c E L) : DC P w0 K n ds Q c E L := by
  intro a w ha hw
  obtain ⟨A, cap, e, _⟩ := tkv_own hw i hi
  exact h ⟨A, cap, e⟩ a w ha hw
theorem DC.shapeP {P : Program} {n : Nat} {ds : List Deferred} {E : Env} {L : List Chunk} {v : Value} {Q : Exit → Act → World → Prop} {c : Code} {t : Nat} {es : List Pr} (i : Nat) (hi : L[i]? = some (slc v t 2 (prs es))) (hf : es.length ≤ 8796093021952) (h : (∃ A c, v = .slice A es.length c) → DC P w0 K n ds Q c E L) : DC P w0 K n ds Q c E L := by
  intro a w ha hw
  obtain ⟨A, cap, e, _⟩ := prv_own hw i hi hf
  exact h ⟨A, cap, e⟩ a w ha hw
end
end Go.Fl

set_option linter.unusedVariables false
set_option linter.unusedSimpArgs false
set_option maxRecDepth 100000
namespace Go.Fl
open Go Go.Proofs
theorem r3Pairs_calls {N : Int} {es : List Pr} {va : Value} {w : World} (hg : PrV w va es) (hl : es.length ≤ 1000000000) :
    Calls Tryz.prog 15 #[.agg #[.int .i64 N, va]] w (Ret w [] fun v L => L = [slc v 35 2 (prs es)]) := by
  obtain ⟨A, cap, rfl, hr, hlc, hcm, _⟩ := hg
  refine calls_of (K := []) (args := [_]) (L := []) Tryz.func15 rfl Tryz.ntmps15 rfl (Own.start _ _) ?_
  refine Zs ?_
  refine Seq.new rfl rfl (n_box rfl rfl rfl) fun g1 => ?_
  refine Za ?_
  refine Zx ?_
  refine Zs ?_
  refine Za ?_
  refine Zx ?_
  refine DC.seq ?_
  refine Zs ?_
  refine Za ?_
  refine Zx ?_
  refine DC.block ?_
  refine DC.own (fun w hw => own_nil (t := 35) (m := 2) hw) ?_
  refine DC.loop (ι := Nat × Value) (fun j => j.1 ≤ es.length) (fun j => [(1, .pointer (some ⟨g1, 0, none⟩)), (3, j.2), (4, .int .i64 (j.1 : Nat))])
    (fun j => [slc j.2 35 2 (prs (es.take j.1)), blk g1 24 #[.int .i64 N, .slice A es.length cap]]) (fun j => es.length - j.1) (0, .slice none 0 0) (Nat.zero_le _) ⟨rfl, rfl, rfl, trivial⟩ (.cons 0 rfl (.cons 0 rfl .nil)) ?_
  rintro ⟨i, v⟩ hi
  dsimp only at hi ⊢
  refine DC.seq ?_
  refine Zs ?_
  refine Zm ?_
  refine Zf fi24_1 ?_
  refine Zl ag22 ?_
  refine Zn Tryz.underlying22 ?_
  refine Zc ?_
  refine Zx ?_
  refine DC.cond rfl (fun c3 => ?_) (fun c3 => ?_)
  · have hlt : i < es.length := by simpa using c3
    obtain ⟨e, he⟩ : ∃ e, es[i]? = some e := ⟨_, List.getElem?_eq_getElem hlt⟩
    obtain ⟨ad, rfl, hU, hVe⟩ := hr.pair he
    refine DC.skip ?_
    refine Fin.then ?_
    refine DC.seq ?_
    refine DC.block ?_
    refine DC.flow (cl := [.q, .q, .v, .q, .q, .q, .v, .q, .v, .q, .q, .q, .v, .q, .n, .g, .q]) (A := [0, 0, 2, 0, 14, 30, 62, 0, 128, 0, 896, 1920, 3968, 8190, 16382, 32767, 65535]) (order := [0, 1, 2, 3, 4, 5, 6, 7, 8, 9, 10, 11, 12, 13, 14, 15, 16]) [] mixed (by kernel_rfl) (fun w hw => hw.pick .nil) ?_
    refine Ym ?_
    refine Yf fi24_1 ?_
    refine Yl ag22 ?_
    refine Ym ?_
    refine Flow.pur rfl rfl rfl (p_index (ad' := ad.add (i * 2)) rfl rfl rfl Tryz.underlying22 sz43 (by omega) (by omega) rfl) ?_
    refine Flow.pur rfl rfl rfl (p_field (ad' := ad.add (i * 2)) rfl rfl fi43_0 (by simp [Addr.add])) ?_
    refine Flow.valS rfl rfl rfl rfl (v_load rfl rfl ag3 (has_old' hU)) ?_
    refine Yf fi24_1 ?_
    refine Yl ag22 ?_
    refine Ym ?_
    refine Flow.pur rfl rfl rfl (p_index (ad' := ad.add (i * 2)) rfl rfl rfl Tryz.underlying22 sz43 (by omega) (by omega) rfl) ?_
    refine Flow.pur rfl rfl rfl (p_field (ad' := ad.add (i * 2 + 1)) rfl rfl fi43_1 (add_add _ _ _ (by decide))) ?_
    refine Flow.valS rfl rfl rfl rfl (v_load rfl rfl ag3 (has_old' hVe)) ?_
    refine Flow.pur rfl rfl rfl (p_array (cs := #[.int .i64 e.1, .int .i64 e.2]) rfl rfl Tryz.underlying35 sz3 ze35 rfl rfl rfl) ?_
    refine Flow.new' rfl rfl rfl rfl (n_slit (cs := #[_, _]) rfl rfl Tryz.underlying37 sz35 ze35 rfl (by decide) (by decide) rfl rfl) fun g26 => ?_
    refine Flow.gen' (V := [blk g26 35 #[.int .i64 e.1, .int .i64 e.2], slc v 35 2 (prs (es.take i)), blk g1 24 #[.int .i64 N, .slice (some ad) es.length cap]]) rfl rfl rfl rfl rfl (Gen.shape (g_append (F := [blk g26 _ _, blk g1 _ _]) (vs := prs (es.take i)) (k := 1) (news := [.int .i64 e.1, .int .i64 e.2]) rfl rfl rfl Tryz.underlying37 sz35 by35 ze35 rfl (by decide) (by decide)
      (fun w hw => hw.pick (.cons 1 rfl (.cons 0 rfl (.cons 0 rfl .nil)))) (.inl ⟨_, _, rfl, hass_blk rfl⟩) rfl (by intro u hu; simp at hu; rcases hu with rfl | rfl <;> rfl) (by rw [prs_length, List.length_take]; omega))) (fun v L' hC w hw => hw.pick (.nil)) ?_
    rintro _ _ ⟨⟨A11, l11, c11, rfl⟩, rfl⟩
    refine Flow.pur rfl rfl rfl (p_assign rfl rfl) ?_
    refine Flow.end rfl ?_
    simp only [List.map_cons, List.map_nil, List.nil_append, List.cons_append, List.append_nil]
    refine Fin.inBlock ?_
    refine Fin.then ?_
    refine DC.region ?_
    refine Zm ?_
    refine Zp ?_
    refine Za ?_
    refine Seq.nil ?_
    refine Fin.again (i + 1, .slice A11 l11 c11) (by dsimp only; omega) (by dsimp only; omega) ⟨rfl, rfl, rfl, trivial⟩ (.cons' 0 rfl (by dsimp only; rw [List.take_add_one, he, prs_append]; rfl) (.cons 1 rfl .nil))
  · refine DC.exit ?_
    refine Fin.exit_then <| Fin.exit_then <| Fin.exit_here <| ?_
    refine Fin.then ?_
    refine Zs ?_
    refine Zm ?_
    refine Za ?_
    refine Zx ?_
    refine DC.ret ?_
    refine Fin.weak (E' := [(2, _)]) ⟨rfl, trivial⟩ (.cons 0 rfl .nil) ?_
    refine Fin.end1 (.inl rfl) rfl rfl ?_
    have hi2 : es.length ≤ i := by simp at c3; omega
    rw [List.take_of_length_le hi2]
theorem lex_tri (a b : Pr) (h1 : ¬ Lex a b) (h2 : a ≠ b) : Lex b a := by
  unfold Lex at *
  have : a.1 ≠ b.1 ∨ a.2 ≠ b.2 := by
    apply Classical.byContradiction
    intro h
    have h' := not_or.1 h
    exact h2 (Prod.ext (Decidable.not_not.1 h'.1) (Decidable.not_not.1 h'.2))
  omega
theorem Lex.trans {a b c : Pr} (h : Lex a b) (k : Lex b c) : Lex a c := by unfold Lex at *; omega
theorem put_sorted {l : List Pr} {e : Pr} {i : Nat} (hl : l.Pairwise Lex) (h1 : ∀ (j : Nat) x, j < i → l[j]? = some x → Lex x e) (h2 : ∀ x, l[i]? = some x → ¬ Lex x e ∧ x ≠ e) : (l.take i ++ e :: l.drop i).Pairwise Lex := by
  have h3 : ∀ x, x ∈ l.drop i → Lex e x := by
    intro x hx
    obtain ⟨j, hj⟩ := List.mem_iff_getElem?.1 hx
    rw [List.getElem?_drop] at hj
    obtain ⟨y, hy⟩ : ∃ y, l[i]? = some y := ⟨_, List.getElem?_eq_getElem (by have := (List.getElem?_eq_some_iff.1 hj).1; omega)⟩
    have h4 := lex_tri _ _ (h2 y hy).1 (h2 y hy).2
    by_cases h0 : j = 0
    · subst h0; rw [Nat.add_zero, hy] at hj; cases hj; exact h4
    · obtain ⟨hi, ei⟩ := List.getElem?_eq_some_iff.1 hy
      obtain ⟨hk, ek⟩ := List.getElem?_eq_some_iff.1 hj
      have := List.pairwise_iff_getElem.1 hl i (i + j) hi hk (by omega)
      rw [ei, ek] at this
      exact h4.trans this
  have h5 : ∀ x, x ∈ l.take i → Lex x e := by
    intro x hx
    obtain ⟨j, hj⟩ := List.mem_iff_getElem?.1 hx
    rw [List.getElem?_take] at hj
    split at hj
    · rename_i h; exact h1 j x h hj
    · cases hj
  rw [List.pairwise_append]
  refine ⟨hl.sublist (List.take_sublist _ _), List.pairwise_cons.2 ⟨h3, hl.sublist (List.drop_sublist _ _)⟩, fun a ha b hb => ?_⟩
  rcases List.mem_cons.1 hb with rfl | hb
  · exact h5 a ha
  · exact (h5 a ha).trans (h3 b hb)
theorem put_mem {l : List Pr} {e x : Pr} {i : Nat} : x ∈ l.take i ++ e :: l.drop i ↔ x ∈ l ∨ x = e := by
  rw [List.mem_append, List.mem_cons]
  constructor
  · rintro (h | rfl | h)
    · exact .inl (List.mem_of_mem_take h)
    · exact .inr rfl
    · exact .inl (List.mem_of_mem_drop h)
  · rintro (h | rfl)
    · rw [← List.take_append_drop i l, List.mem_append] at h
      rcases h with h | h
      · exact .inl h
      · exact .inr (.inr h)
    · exact .inr (.inl rfl)
def PutR (l : List Pr) (e : Pr) (l' : List Pr) : Prop := l'.Pairwise Lex ∧ (∀ x, x ∈ l' ↔ x ∈ l ∨ x = e) ∧ l'.length ≤ l.length + 1
theorem r3Put_calls {l : List Pr} {e : Pr} {vl : Value} {w : World} (hg : PrV w vl l) (hup : l.Pairwise Lex) (hl : l.length ≤ 1000000000) :
    Calls Tryz.prog 36 #[vl, .agg #[.int .i64 e.1, .int .i64 e.2]] w (Ret w [] fun r M => (r = vl ∧ M = [] ∧ PutR l e l) ∨ ∃ l', M = [slc r 43 2 (prs l')] ∧ PutR l e l') := by
  obtain ⟨A, cap, rfl, hr, hlc, hcm, _⟩ := hg
  refine calls_of (K := []) (args := [_, _]) (L := []) Tryz.func36 rfl Tryz.ntmps36 rfl (Own.start _ _) ?_
  refine Zs ?_
  refine Seq.new rfl rfl (n_box rfl rfl rfl) fun g3 => ?_
  refine Za ?_
  refine Zx ?_
  refine Zs ?_
  refine Za ?_
  refine Zx ?_
  refine Zs ?_
  refine Za ?_
  refine Zx ?_
  refine DC.cut (ι := Nat × Value) (fun j => j.1 ≤ l.length ∧ (∀ (k : Nat) x, k < j.1 → l[k]? = some x → Lex x e) ∧ ∀ x, l[j.1]? = some x → ¬ Lex x e) (fun j => [(0, .slice A l.length cap), (3, .pointer (some ⟨g3, 0, none⟩)), (5, j.2), (6, .int .i64 (j.1 : Nat))])
    (fun j => [slc j.2 43 2 (prs (l.take j.1)), blk g3 43 #[.int .i64 e.1, .int .i64 e.2]]) ?first ?rest
  case first =>
    refine DC.block ?_
    refine DC.own (fun w hw => own_nil (t := 43) (m := 2) hw) ?_
    refine DC.loop (ι := Nat × Value) (fun j => j.1 ≤ l.length ∧ ∀ (k : Nat) x, k < j.1 → l[k]? = some x → Lex x e) (fun j => [(0, .slice A l.length cap), (3, .pointer (some ⟨g3, 0, none⟩)), (5, j.2), (6, .int .i64 (j.1 : Nat))])
      (fun j => [slc j.2 43 2 (prs (l.take j.1)), blk g3 43 #[.int .i64 e.1, .int .i64 e.2]]) (fun j => l.length - j.1) (0, .slice none 0 0) ⟨Nat.zero_le _, fun k x h => absurd h (Nat.not_lt_zero _)⟩ ⟨rfl, rfl, rfl, rfl, trivial⟩ (.cons 0 rfl (.cons 0 rfl .nil)) ?_
    rintro ⟨i, v⟩ ⟨hi, hlo⟩
    dsimp only at hi hlo ⊢
    refine DC.seq ?_
    refine Zs ?_
    refine Zm ?_
    refine Zm ?_
    refine Zn Tryz.underlying22 ?_
    refine Zc ?_
    refine Zx ?_
    refine DC.cond rfl (fun c3 => ?_) (fun c3 => ?_)
    · have hlt : i < l.length := by simpa using c3
      obtain ⟨x, hx⟩ : ∃ x, l[i]? = some x := ⟨_, List.getElem?_eq_getElem hlt⟩
      obtain ⟨ad, rfl, hU, hVe⟩ := hr.pair hx
      refine DC.skip ?_
      refine Fin.then ?_
      refine DC.block ?_
      refine DC.seq ?_
      refine DC.flow (cl := [.q, .q, .q, .v, .v, .r, .q]) (A := [0, 0, 3, 7, 0, 31, 63]) (order := [0, 1, 2, 3, 4, 5, 6]) [] mixed (by kernel_rfl) (fun w hw => hw.pick .nil) ?_
      refine Ym ?_
      refine Ym ?_
      refine Flow.pur rfl rfl rfl (p_index (ad' := ad.add (i * 2)) rfl rfl rfl Tryz.underlying22 sz43 (by omega) (by omega) rfl) ?_
      refine Flow.valS rfl rfl rfl rfl (v_loads (vs := [_, _]) rfl rfl ag43 sz43 rfl (hass2 hU hVe (by simp))) ?_
      refine Flow.valS rfl rfl rfl rfl (v_loads (vs := [_, _]) rfl rfl ag43 sz43 rfl (hass_blk rfl)) ?_
      refine Flow.rel0 rfl rfl rfl rfl (r_call en35 rfl rfl rfl (fun w' hw => r3Less_calls x.1 x.2 e.1 e.2 w')) ?_
      rintro _ ⟨lb, rfl, hlb⟩
      refine Flow.pur rfl rfl rfl (p_assign rfl rfl) ?_
      refine Flow.end rfl ?_
      simp only [List.map_cons, List.map_nil, List.nil_append, List.cons_append, List.append_nil]
      refine Fin.then ?_
      refine DC.seq ?_
      refine Zs ?_
      refine Zm ?_
      refine Seq.pur rfl rfl (p_not rfl rfl) ?_
      refine Zx ?_
      refine DC.cond rfl (fun c5 => ?_) (fun c5 => ?_)
      · refine DC.exit ?_
        refine Fin.exit_then <| Fin.exit_past (by decide) <| Fin.exit_then <| Fin.exit_here <| ?_
        have hlb' : ¬ Lex x e := fun h => by rw [hlb.2 h] at c5; simp at c5
        refine Fin.meet (i, v) ⟨hi, hlo, fun y hy => by dsimp only at hy; rw [hx] at hy; cases hy; exact hlb'⟩ ⟨rfl, rfl, rfl, rfl, trivial⟩ (.cons 0 rfl (.cons 0 rfl .nil))
      · have hlb' : Lex x e := hlb.1 (by simpa using c5)
        refine DC.skip ?_
        refine Fin.then ?_
        refine Zs ?_
        refine Zm ?_
        refine Zm ?_
        refine Zm ?_
        refine Seq.pur rfl rfl (p_index (ad' := ad.add (i * 2)) rfl rfl rfl Tryz.underlying22 sz43 (by omega) (by omega) rfl) ?_
        refine Seq.val rfl rfl (v_loads (vs := [_, _]) rfl rfl ag43 sz43 rfl (hass2 hU hVe (by simp))) ?_
        refine Seq.new rfl rfl (n_slit (cs := #[_, _]) rfl rfl Tryz.underlying22 sz43 ze43 rfl (by decide) (by decide) rfl rfl) fun g25 => ?_
        refine Seq.gen rfl rfl (Gen.shape (g_append (F := [blk g25 _ _, blk g3 43 #[.int .i64 e.1, .int .i64 e.2]]) (vs := prs (l.take i)) (k := 1) (news := [.int .i64 x.1, .int .i64 x.2]) rfl rfl rfl Tryz.underlying22 sz43 by43 ze43 rfl (by decide) (by decide)
          (fun w hw => hw.pick (.cons 1 rfl (.cons 0 rfl (.cons 0 rfl .nil)))) (.inl ⟨_, _, rfl, hass_blk rfl⟩) rfl (by intro u hu; simp at hu; rcases hu with rfl | rfl <;> rfl) (by rw [prs_length, List.length_take]; omega))) ?_
        rintro _ _ ⟨⟨A11, l11, c11, rfl⟩, rfl⟩
        refine Za ?_
        refine Zx ?_
        refine DC.region ?_
        refine Zm ?_
        refine Zp ?_
        refine Za ?_
        refine Seq.nil ?_
        refine Fin.inBlock ?_
        refine Fin.again (i + 1, .slice A11 l11 c11) (by dsimp only; omega) ⟨by dsimp only; omega, fun k y h1 h2 => ?_⟩ ⟨rfl, rfl, rfl, rfl, trivial⟩ (.cons' 0 rfl (by dsimp only; rw [List.take_add_one, hx, prs_append]; rfl) (.cons 1 rfl .nil))
        dsimp only at h1
        by_cases hk : k = i
        · subst hk; rw [hx] at h2; cases h2; exact hlb'
        · exact hlo k y (by omega) h2
    · refine DC.exit ?_
      refine Fin.exit_then <| Fin.exit_then <| Fin.exit_here <| ?_
      have hi2 : l.length ≤ i := by simp at c3; omega
      refine Fin.meet (i, v) ⟨hi, hlo, fun y hy => by dsimp only at hy; rw [List.getElem?_eq_none hi2] at hy; cases hy⟩ ⟨rfl, rfl, rfl, rfl, trivial⟩ (.cons 0 rfl (.cons 0 rfl .nil))
  case rest =>
    rintro ⟨i, v⟩ ⟨hi, hlo, hno⟩
    dsimp only at hi hlo hno ⊢
    refine DC.seq ?_
    refine DC.cut (ι := Bool) (fun b => b = true ↔ l[i]? = some e) (fun b => [(0, .slice A l.length cap), (3, .pointer (some ⟨g3, 0, none⟩)), (5, v), (6, .int .i64 (i : Nat)), (40, .bool b)])
      (fun _ => [slc v 43 2 (prs (l.take i)), blk g3 43 #[.int .i64 e.1, .int .i64 e.2]]) ?first8 ?rest8
    case first8 =>
      refine DC.flow (cl := [.q, .q, .q, .q, .q, .q, .q, .q, .v, .v, .q, .q]) (A := [0, 0, 2, 7, 15, 31, 31, 127, 255, 31, 1023, 2047]) (order := [0, 1, 2, 3, 4, 5, 6, 7, 8, 9, 10, 11]) [] mixed (by kernel_rfl) (fun w hw => hw.pick .nil) ?_
      refine Ym ?_
      refine Ym ?_
      refine Flow.pur rfl rfl rfl (p_len rfl rfl Tryz.underlying22) ?_
      refine Flow.pur rfl rfl rfl (p_lss rfl rfl rfl) ?_
      refine Ym ?_
      refine Flow.split 33 rfl (fun k8_4 => ?_) (fun k8_4 => ?_)
      · have hlt : i < l.length := by simpa using k8_4
        obtain ⟨x, hx⟩ : ∃ x, l[i]? = some x := ⟨_, List.getElem?_eq_getElem hlt⟩
        obtain ⟨ad, rfl, hU, hVe⟩ := hr.pair hx
        refine Ym ?_
        refine Ym ?_
        refine Flow.pur rfl rfl rfl (p_index (ad' := ad.add (i * 2)) rfl rfl rfl Tryz.underlying22 sz43 (by omega) (by omega) rfl) ?_
        refine Flow.valS rfl rfl rfl rfl (v_loads (vs := [_, _]) rfl rfl ag43 sz43 rfl (hass2 hU hVe (by simp))) ?_
        refine Flow.valS rfl rfl rfl rfl (v_loads (vs := [_, _]) rfl rfl ag43 sz43 rfl (hass_blk rfl)) ?_
        refine Flow.pur rfl rfl rfl (p_eql_pair rfl rfl rfl (by kernel_rfl)) ?_
        refine Flow.pur rfl rfl rfl (p_pick_t rfl rfl rfl) ?_
        refine Flow.end rfl ?_
        simp only [List.map_cons, List.map_nil, List.nil_append, List.cons_append, List.append_nil]
        refine Fin.meet (decide (x.1 = e.1 ∧ x.2 = e.2)) ?_ ⟨rfl, rfl, rfl, rfl, rfl, trivial⟩ (.cons 0 rfl (.cons 0 rfl .nil))
        rw [decide_eq_true_iff, hx, Option.some.injEq]
        exact ⟨fun h => Prod.ext h.1 h.2, fun h => by rw [h]; exact ⟨rfl, rfl⟩⟩
      · have hlt : l.length ≤ i := by simpa using k8_4
        refine Yk ?_
        refine Yk ?_
        refine Yk ?_
        refine Yk ?_
        refine Yk ?_
        refine Yk ?_
        refine Flow.pur rfl rfl rfl (p_pick_f rfl rfl rfl) ?_
        refine Flow.end rfl ?_
        simp only [List.map_cons, List.map_nil, List.nil_append, List.cons_append, List.append_nil]
        refine Fin.meet false ?_ ⟨rfl, rfl, rfl, rfl, rfl, trivial⟩ (.cons 0 rfl (.cons 0 rfl .nil))
        rw [List.getElem?_eq_none hlt]; simp
    case rest8 =>
      rintro b hb
      refine DC.cond rfl (fun c8 => ?_) (fun c8 => ?_)
      · refine Zs ?_
        refine Zm ?_
        refine Za ?_
        refine Zx ?_
        refine DC.ret ?_
        refine Fin.ret_then <| ?_
        refine Fin.weak (E' := [(4, _)]) ⟨rfl, trivial⟩ .nil ?_
        refine Fin.end1 (.inl rfl) rfl rfl ?_
        have hle := hb.1 c8
        refine .inl ⟨rfl, rfl, hup, fun y => ⟨.inl, fun h => ?_⟩, by omega⟩
        rcases h with h | rfl
        · exact h
        · exact List.mem_of_getElem? hle
      · have hno2 : ∀ x, l[i]? = some x → ¬ Lex x e ∧ x ≠ e := fun x hx => ⟨hno x hx, fun h => by rw [h] at hx; rw [hb.2 hx] at c8; cases c8⟩
        refine DC.skip ?_
        refine Fin.then ?_
        refine Zs ?_
        refine Zm ?_
        refine Seq.val rfl rfl (v_loads (vs := [_, _]) rfl rfl ag43 sz43 rfl (hass_blk rfl)) ?_
        refine Seq.new rfl rfl (n_slit (cs := #[_, _]) rfl rfl Tryz.underlying22 sz43 ze43 rfl (by decide) (by decide) rfl rfl) fun g44 => ?_
        refine Seq.gen rfl rfl (Gen.shape (g_append (F := [blk g44 _ _, blk g3 43 #[.int .i64 e.1, .int .i64 e.2]]) (vs := prs (l.take i)) (k := 1) (news := [.int .i64 e.1, .int .i64 e.2]) rfl rfl rfl Tryz.underlying22 sz43 by43 ze43 rfl (by decide) (by decide)
          (fun w hw => hw.pick (.cons 1 rfl (.cons 0 rfl (.cons 0 rfl .nil)))) (.inl ⟨_, _, rfl, hass_blk rfl⟩) rfl (by intro u hu; simp at hu; rcases hu with rfl | rfl <;> rfl) (by rw [prs_length, List.length_take]; omega))) ?_
        rintro _ _ ⟨⟨A12, l12, c12, rfl⟩, rfl⟩
        refine Za ?_
        refine Zx ?_
        refine DC.seq ?_
        refine DC.block ?_
        refine DC.loop (ι := Nat × Value) (fun j => i ≤ j.1 ∧ j.1 ≤ l.length) (fun j => [(0, .slice A l.length cap), (5, j.2), (6, .int .i64 (j.1 : Nat))])
          (fun j => [slc j.2 43 2 (prs (l.take i ++ e :: (l.drop i).take (j.1 - i)))]) (fun j => l.length - j.1) (i, .slice A12 l12 c12) ⟨Nat.le_refl _, hi⟩ ⟨rfl, rfl, rfl, trivial⟩ (.cons' 0 rfl (by simp [prs_append, prs]) .nil) ?_
        rintro ⟨j, v⟩ ⟨hij, hj⟩
        dsimp only at hij hj ⊢
        refine DC.seq ?_
        refine Zs ?_
        refine Zm ?_
        refine Zm ?_
        refine Zn Tryz.underlying22 ?_
        refine Zc ?_
        refine Zx ?_
        refine DC.cond rfl (fun c11 => ?_) (fun c11 => ?_)
        · have hlt : j < l.length := by simpa using c11
          obtain ⟨x, hx⟩ : ∃ x, l[j]? = some x := ⟨_, List.getElem?_eq_getElem hlt⟩
          obtain ⟨ad, rfl, hU, hVe⟩ := hr.pair hx
          refine DC.skip ?_
          refine Fin.then ?_
          refine DC.block ?_
          refine Zs ?_
          refine Zm ?_
          refine Zm ?_
          refine Zm ?_
          refine Seq.pur rfl rfl (p_index (ad' := ad.add (j * 2)) rfl rfl rfl Tryz.underlying22 sz43 (by omega) (by omega) rfl) ?_
          refine Seq.val rfl rfl (v_loads (vs := [_, _]) rfl rfl ag43 sz43 rfl (hass2 hU hVe (by simp))) ?_
          refine Seq.new rfl rfl (n_slit (cs := #[_, _]) rfl rfl Tryz.underlying22 sz43 ze43 rfl (by decide) (by decide) rfl rfl) fun g55 => ?_
          refine Seq.gen rfl rfl (Gen.shape (g_append (F := [blk g55 _ _]) (vs := prs (l.take i ++ e :: (l.drop i).take (j - i))) (k := 1) (news := [.int .i64 x.1, .int .i64 x.2]) rfl rfl rfl Tryz.underlying22 sz43 by43 ze43 rfl (by decide) (by decide)
            (fun w hw => hw.pick (.cons 1 rfl (.cons 0 rfl .nil))) (.inl ⟨_, _, rfl, hass_blk rfl⟩) rfl (by intro u hu; simp at hu; rcases hu with rfl | rfl <;> rfl) (by rw [prs_length, List.length_append, List.length_cons, List.length_take, List.length_take]; omega))) ?_
          rintro _ _ ⟨⟨A13, l13, c13, rfl⟩, rfl⟩
          refine Za ?_
          refine Zx ?_
          refine DC.region ?_
          refine Zm ?_
          refine Zp ?_
          refine Za ?_
          refine Seq.nil ?_
          refine Fin.inBlock ?_
          refine Fin.again (j + 1, .slice A13 l13 c13) (by dsimp only; omega) ⟨by dsimp only; omega, by dsimp only; omega⟩ ⟨rfl, rfl, rfl, trivial⟩ (.cons' 0 rfl ?_ .nil)
          dsimp only
          rw [show j + 1 - i = (j - i) + 1 by omega, List.take_add_one, List.getElem?_drop, show i + (j - i) = j by omega, hx]
          simp [prs_append, prs]
        · refine DC.exit ?_
          refine Fin.exit_then <| Fin.exit_then <| Fin.exit_here <| ?_
          refine Fin.then ?_
          refine Zs ?_
          refine Zm ?_
          refine Za ?_
          refine Zx ?_
          refine DC.ret ?_
          refine Fin.weak (E' := [(4, _)]) ⟨rfl, trivial⟩ (.cons 0 rfl .nil) ?_
          refine Fin.end1 (.inl rfl) rfl rfl ?_
          have hj2 : l.length ≤ j := by simp at c11; omega
          have e1 : (l.drop i).take (j - i) = l.drop i := List.take_of_length_le (by simp; omega)
          rw [e1]
          exact .inr ⟨_, rfl, put_sorted hup hlo hno2, fun x => put_mem, by simp; omega⟩
theorem r3Put_calls2 {l : List Pr} {e : Pr} {vl : Value} {w : World} (hO : Own w (idsOf [slc vl 43 2 (prs l)]) w [slc vl 43 2 (prs l)]) (hup : l.Pairwise Lex) (hl : l.length ≤ 1000000000) :
    Calls Tryz.prog 36 #[vl, .agg #[.int .i64 e.1, .int .i64 e.2]] w (Ret w (idsOf [slc vl 43 2 (prs l)]) fun r M => ∃ l', M = [slc r 43 2 (prs l')] ∧ PutR l e l') := by
  refine Calls.mono (r3Put_calls (prv_own hO 0 rfl (by omega)) hup hl) ?_
  rintro e' w' ⟨v, L', rfl, ⟨rfl, rfl, h⟩ | ⟨l', rfl, h⟩, hc⟩
  · exact ⟨_, _, rfl, ⟨l, rfl, h⟩, Own.add hO hc⟩
  · exact ⟨_, _, rfl, ⟨l', rfl, h⟩, (Own.add hO hc).sub (by simp)⟩
/-! ### Make -/
def InR (n : Int) (p : Pr) : Prop := 0 ≤ p.1 ∧ p.1 < n ∧ 0 ≤ p.2 ∧ p.2 < n
def nrm (p : Pr) : Pr := (min p.1 p.2, max p.1 p.2)
def MkS (ps es : List Pr) : Prop := es.Pairwise Lex ∧ ∀ x, x ∈ es ↔ ∃ p, p ∈ ps ∧ p.1 ≠ p.2 ∧ x = nrm p
def MakeR (n : Int) (ps : List Pr) (r : Value) (M : List Chunk) : Prop :=
  ((0 ≤ n ∧ n ≤ 1048576) ∧ (∀ p, p ∈ ps → InR n p) ∧ ∃ es v, MkS ps es ∧ es.length ≤ 4194304 ∧ r = .tuple #[.agg #[.int .i64 n, v], .int .i64 0] ∧ M = [slc v 43 2 (prs es)]) ∨
  (∃ e, e ≠ 0 ∧ r = .tuple #[.agg #[.int .i64 0, .slice none 0 0], .int .i64 e] ∧ M = [] ∧ (¬ (0 ≤ n ∧ n ≤ 1048576) ∨ (∃ p, p ∈ ps ∧ ¬ InR n p) ∨ ∃ es, MkS ps es ∧ 4194304 < es.length))
theorem mks_nil : MkS [] [] := ⟨.nil, by simp⟩
theorem mks_put {ps es es' : List Pr} {p : Pr} (h : MkS ps es) (hp : p.1 ≠ p.2) (hr : PutR es (nrm p) es') : MkS (ps ++ [p]) es' := by
  refine ⟨hr.1, fun x => ?_⟩
  rw [hr.2.1, h.2]
  constructor
  · rintro (⟨q, h1, h2⟩ | rfl)
    · exact ⟨q, List.mem_append_left _ h1, h2⟩
    · exact ⟨p, by simp, hp, rfl⟩
  · rintro ⟨q, h1, h2⟩
    rcases List.mem_append.1 h1 with h1 | h1
    · exact .inl ⟨q, h1, h2⟩
    · simp at h1; subst h1; exact .inr h2.2
theorem mks_skip {ps es : List Pr} {p : Pr} (h : MkS ps es) (hp : p.1 = p.2) : MkS (ps ++ [p]) es := by
  refine ⟨h.1, fun x => ?_⟩
  rw [h.2]
  constructor
  · rintro ⟨q, h1, h2⟩; exact ⟨q, List.mem_append_left _ h1, h2⟩
  · rintro ⟨q, h1, h2⟩
    rcases List.mem_append.1 h1 with h1 | h1
    · exact ⟨q, h1, h2⟩
    · simp at h1; subst h1; exact absurd hp h2.1
structure MkI where
  i : Nat
  v : Value
  es : List Pr
theorem r3Make_calls {n : Int} {ps : List Pr} {vp : Value} {w : World} (hg : PrV w vp ps) (hl : ps.length ≤ 1000000000) :
    Calls Tryz.prog 16 #[.int .i64 n, vp] w (Ret w [] (MakeR n ps)) := by
  obtain ⟨A, cap, rfl, hr, hlc, hcm, _⟩ := hg
  refine calls_of (K := []) (args := [_, _]) (L := []) Tryz.func16 rfl Tryz.ntmps16 rfl (Own.start _ _) ?_
  refine Zs ?_
  refine Seq.new rfl rfl (n_alloc rfl ze24 rfl) fun g4 => ?_
  refine Za ?_
  refine Zx ?_
  refine DC.seq ?_
  refine Zs ?_
  refine Zm ?_
  refine Zc ?_
  refine Zm ?_
  refine Seq.split 15 rfl (fun k1_2 => ?_) (fun k1_2 => ?_)
  · refine Zk ?_
    refine Zk ?_
    refine Zt ?_
    refine Zx ?_
    refine DC.cond_t rfl ?_
    refine Zs ?_
    refine Seq.pur rfl rfl (p_struct (cs := #[_, _]) rfl rfl bs24 rfl rfl) ?_
    refine Seq.sto rfl rfl (s_stores (cs' := #[_, _]) rfl rfl rfl sz24 rfl (Nat.le_of_ble_eq_true rfl) rfl) ?_
    refine Za ?_
    refine Zx ?_
    refine DC.ret ?_
    refine Fin.ret_then <| ?_
    refine Fin.endct (cs := #[_, _]) (.inl rfl) rfl rfl rfl ag24 sz24 ?_
    refine ⟨[], fun w hw => hw.pick .nil, .inr ⟨2, by decide, rfl, rfl, .inl ?_⟩⟩
    simp at k1_2; omega
  · refine Zm ?_
    refine Seq.pur rfl rfl (p_gtr rfl rfl rfl) ?_
    refine Zg ?_
    refine Zx ?_
    refine DC.cond rfl (fun c1 => ?_) (fun c1 => ?_)
    · refine Zs ?_
      refine Seq.pur rfl rfl (p_struct (cs := #[_, _]) rfl rfl bs24 rfl rfl) ?_
      refine Seq.sto rfl rfl (s_stores (cs' := #[_, _]) rfl rfl rfl sz24 rfl (Nat.le_of_ble_eq_true rfl) rfl) ?_
      refine Za ?_
      refine Zx ?_
      refine DC.ret ?_
      refine Fin.ret_then <| ?_
      refine Fin.endct (cs := #[_, _]) (.inl rfl) rfl rfl rfl ag24 sz24 ?_
      refine ⟨[], fun w hw => hw.pick .nil, .inr ⟨2, by decide, rfl, rfl, .inl ?_⟩⟩
      simp at c1; omega
    · refine DC.skip ?_
      refine Fin.then ?_
      refine DC.cut (ι := Unit) (fun _ => ∀ p, p ∈ ps → InR n p) (fun j => [(0, .int .i64 n), (1, .slice A ps.length cap), (4, .pointer (some ⟨g4, 0, none⟩))]) (fun _ => [blk g4 24 #[.int .i64 0, .slice none 0 0]]) ?first ?rest
      case first =>
        refine Zs ?_
        refine Za ?_
        refine Zx ?_
        refine DC.block ?_
        refine DC.loop (ι := Nat) (fun j => j ≤ ps.length ∧ ∀ (k : Nat) p, k < j → ps[k]? = some p → InR n p) (fun j => [(0, .int .i64 n), (1, .slice A ps.length cap), (4, .pointer (some ⟨g4, 0, none⟩)), (6, .int .i64 (j : Nat))])
          (fun j => [blk g4 24 #[.int .i64 0, .slice none 0 0]]) (fun j => ps.length - j) 0 ⟨Nat.zero_le _, fun k x h => absurd h (Nat.not_lt_zero _)⟩ ⟨rfl, rfl, rfl, rfl, trivial⟩ (.cons 0 rfl .nil) ?_
        rintro i ⟨hi, hin⟩
        refine DC.seq ?_
        refine Zs ?_
        refine Zm ?_
        refine Zm ?_
        refine Zn Tryz.underlying37 ?_
        refine Zc ?_
        refine Zx ?_
        refine DC.cond rfl (fun c4 => ?_) (fun c4 => ?_)
        · have hlt : i < ps.length := by simpa using c4
          obtain ⟨x, hx⟩ : ∃ x, ps[i]? = some x := ⟨_, List.getElem?_eq_getElem hlt⟩
          obtain ⟨ad, rfl, hU, hVe⟩ := hr.pair hx
          refine DC.skip ?_
          refine Fin.then ?_
          refine DC.seq ?_
          refine DC.block ?_
          refine Zs ?_
          refine Zm ?_
          refine Zm ?_
          refine Seq.pur rfl rfl (p_index (ad' := ad.add (i * 2)) rfl rfl rfl Tryz.underlying37 sz35 (by omega) (by omega) rfl) ?_
          refine Seq.pur rfl rfl (p_indexA (ad' := ad.add (i * 2)) rfl rfl rfl Tryz.underlying35 sz3 (by omega) (by omega) (by simp [Addr.add])) ?_
          refine Seq.val rfl rfl (v_load rfl rfl ag3 (has_old' hU)) ?_
          refine Za ?_
          refine Zx ?_
          refine Zs ?_
          refine Zm ?_
          refine Zm ?_
          refine Seq.pur rfl rfl (p_index (ad' := ad.add (i * 2)) rfl rfl rfl Tryz.underlying37 sz35 (by omega) (by omega) rfl) ?_
          refine Seq.pur rfl rfl (p_indexA (ad' := ad.add (i * 2 + 1)) rfl rfl rfl Tryz.underlying35 sz3 (by omega) (by omega) (add_add _ _ _ (by decide))) ?_
          refine Seq.val rfl rfl (v_load rfl rfl ag3 (has_old' hVe)) ?_
          refine Za ?_
          refine Zx ?_
          refine Zs ?_
          refine Zm ?_
          refine Zc ?_
          refine Zm ?_
          refine Seq.split 38 rfl (fun k8_2 => ?_) (fun k8_2 => ?_)
          · refine Zk ?_
            refine Zk ?_
            refine Zk ?_
            refine Zt ?_
            refine Zm ?_
            refine Zk ?_
            refine Zk ?_
            refine Zt ?_
            refine Zm ?_
            refine Zk ?_
            refine Zk ?_
            refine Zk ?_
            refine Zt ?_
            refine Zx ?_
            refine DC.cond_t rfl ?_
            refine Zs ?_
            refine Seq.pur rfl rfl (p_struct (cs := #[_, _]) rfl rfl bs24 rfl rfl) ?_
            refine Seq.sto rfl rfl (s_stores (cs' := #[_, _]) rfl rfl rfl sz24 rfl (Nat.le_of_ble_eq_true rfl) rfl) ?_
            refine Za ?_
            refine Zx ?_
            refine DC.ret ?_
            refine Fin.ret_block <| Fin.ret_then <| Fin.ret_then <| Fin.ret_block <| Fin.ret_then <| ?_
            refine Fin.endct (cs := #[_, _]) (.inl rfl) rfl rfl rfl ag24 sz24 ?_
            refine ⟨[], fun w hw => hw.pick .nil, .inr ⟨2, by decide, rfl, rfl, .inr (.inl ⟨x, List.mem_of_getElem? hx, ?_⟩)⟩⟩
            unfold InR
            first
            | (simp at k8_2; omega)
            | (simp at k8_7; omega)
            | (simp at k8_11; omega)
            | (simp at c8; omega)
          · refine Zm ?_
            refine Zm ?_
            refine Seq.pur rfl rfl (p_geq rfl rfl rfl) ?_
            refine Zg ?_
            refine Zm ?_
            refine Seq.split 43 rfl (fun k8_7 => ?_) (fun k8_7 => ?_)
            · refine Zk ?_
              refine Zk ?_
              refine Zt ?_
              refine Zm ?_
              refine Zk ?_
              refine Zk ?_
              refine Zk ?_
              refine Zt ?_
              refine Zx ?_
              refine DC.cond_t rfl ?_
              refine Zs ?_
              refine Seq.pur rfl rfl (p_struct (cs := #[_, _]) rfl rfl bs24 rfl rfl) ?_
              refine Seq.sto rfl rfl (s_stores (cs' := #[_, _]) rfl rfl rfl sz24 rfl (Nat.le_of_ble_eq_true rfl) rfl) ?_
              refine Za ?_
              refine Zx ?_
              refine DC.ret ?_
              refine Fin.ret_block <| Fin.ret_then <| Fin.ret_then <| Fin.ret_block <| Fin.ret_then <| ?_
              refine Fin.endct (cs := #[_, _]) (.inl rfl) rfl rfl rfl ag24 sz24 ?_
              refine ⟨[], fun w hw => hw.pick .nil, .inr ⟨2, by decide, rfl, rfl, .inr (.inl ⟨x, List.mem_of_getElem? hx, ?_⟩)⟩⟩
              unfold InR
              first
              | (simp at k8_2; omega)
              | (simp at k8_7; omega)
              | (simp at k8_11; omega)
              | (simp at c8; omega)
            · refine Zm ?_
              refine Zc ?_
              refine Zg ?_
              refine Zm ?_
              refine Seq.split 47 rfl (fun k8_11 => ?_) (fun k8_11 => ?_)
              · refine Zk ?_
                refine Zk ?_
                refine Zk ?_
                refine Zt ?_
                refine Zx ?_
                refine DC.cond_t rfl ?_
                refine Zs ?_
                refine Seq.pur rfl rfl (p_struct (cs := #[_, _]) rfl rfl bs24 rfl rfl) ?_
                refine Seq.sto rfl rfl (s_stores (cs' := #[_, _]) rfl rfl rfl sz24 rfl (Nat.le_of_ble_eq_true rfl) rfl) ?_
                refine Za ?_
                refine Zx ?_
                refine DC.ret ?_
                refine Fin.ret_block <| Fin.ret_then <| Fin.ret_then <| Fin.ret_block <| Fin.ret_then <| ?_
                refine Fin.endct (cs := #[_, _]) (.inl rfl) rfl rfl rfl ag24 sz24 ?_
                refine ⟨[], fun w hw => hw.pick .nil, .inr ⟨2, by decide, rfl, rfl, .inr (.inl ⟨x, List.mem_of_getElem? hx, ?_⟩)⟩⟩
                unfold InR
                first
                | (simp at k8_2; omega)
                | (simp at k8_7; omega)
                | (simp at k8_11; omega)
                | (simp at c8; omega)
              · refine Zm ?_
                refine Zm ?_
                refine Seq.pur rfl rfl (p_geq rfl rfl rfl) ?_
                refine Zg ?_
                refine Zx ?_
                refine DC.cond rfl (fun c8 => ?_) (fun c8 => ?_)
                · refine Zs ?_
                  refine Seq.pur rfl rfl (p_struct (cs := #[_, _]) rfl rfl bs24 rfl rfl) ?_
                  refine Seq.sto rfl rfl (s_stores (cs' := #[_, _]) rfl rfl rfl sz24 rfl (Nat.le_of_ble_eq_true rfl) rfl) ?_
                  refine Za ?_
                  refine Zx ?_
                  refine DC.ret ?_
                  refine Fin.ret_block <| Fin.ret_then <| Fin.ret_then <| Fin.ret_block <| Fin.ret_then <| ?_
                  refine Fin.endct (cs := #[_, _]) (.inl rfl) rfl rfl rfl ag24 sz24 ?_
                  refine ⟨[], fun w hw => hw.pick .nil, .inr ⟨2, by decide, rfl, rfl, .inr (.inl ⟨x, List.mem_of_getElem? hx, ?_⟩)⟩⟩
                  unfold InR
                  first
                  | (simp at k8_2; omega)
                  | (simp at k8_7; omega)
                  | (simp at k8_11; omega)
                  | (simp at c8; omega)
                · refine DC.skip ?_
                  refine Fin.inBlock ?_
                  refine Fin.then ?_
                  refine DC.region ?_
                  refine Zm ?_
                  refine Zp ?_
                  refine Za ?_
                  refine Seq.nil ?_
                  have hx2 : InR n x := by
                    unfold InR
                    simp at k8_2 k8_7 k8_11 c8
                    omega
                  refine Fin.again (i + 1) (by omega) ⟨by omega, fun k y h1 h2 => ?_⟩ ⟨rfl, rfl, rfl, rfl, trivial⟩ (.cons 0 rfl .nil)
                  by_cases hk : k = i
                  · subst hk; rw [hx] at h2; cases h2; exact hx2
                  · exact hin k y (by omega) h2
        · refine DC.exit ?_
          refine Fin.exit_then <| Fin.exit_then <| Fin.exit_here <| ?_
          refine Fin.meet () (fun p hp => ?_) ⟨rfl, rfl, rfl, trivial⟩ (.cons 0 rfl .nil)
          obtain ⟨k, hk⟩ := List.mem_iff_getElem?.1 hp
          exact hin k p (by have := (List.getElem?_eq_some_iff.1 hk).1; simp at c4; omega) hk
      case rest =>
        rintro _ hin
        refine Zs ?_
        refine Za ?_
        refine Zx ?_
        refine DC.seq ?_
        refine Zs ?_
        refine Za ?_
        refine Zx ?_
        refine DC.block ?_
        refine DC.own (fun w hw => own_nil (t := 43) (m := 2) hw) ?_
        refine DC.loop (ι := MkI) (fun j => j.i ≤ ps.length ∧ MkS (ps.take j.i) j.es ∧ j.es.length ≤ j.i) (fun j => [(0, .int .i64 n), (1, .slice A ps.length cap), (4, .pointer (some ⟨g4, 0, none⟩)), (9, j.v), (10, .int .i64 (j.i : Nat))])
          (fun j => [slc j.v 43 2 (prs j.es), blk g4 24 #[.int .i64 0, .slice none 0 0]]) (fun j => ps.length - j.i) ⟨0, .slice none 0 0, []⟩ ⟨Nat.zero_le _, mks_nil, Nat.zero_le _⟩ ⟨rfl, rfl, rfl, rfl, rfl, trivial⟩ (.cons 0 rfl (.cons 0 rfl .nil)) ?_
        rintro ⟨i, v, es⟩ ⟨hi, hmk, hel⟩
        dsimp only at hi hmk hel ⊢
        refine DC.seq ?_
        refine Zs ?_
        refine Zm ?_
        refine Zm ?_
        refine Zn Tryz.underlying37 ?_
        refine Zc ?_
        refine Zx ?_
        refine DC.cond rfl (fun c12 => ?_) (fun c12 => ?_)
        · have hlt : i < ps.length := by simpa using c12
          obtain ⟨x, hx⟩ : ∃ x, ps[i]? = some x := ⟨_, List.getElem?_eq_getElem hlt⟩
          obtain ⟨ad, rfl, hU, hVe⟩ := hr.pair hx
          have htk : ps.take (i + 1) = ps.take i ++ [x] := by rw [List.take_add_one, hx]; rfl
          refine DC.skip ?_
          refine Fin.then ?_
          refine DC.seq ?_
          refine DC.block ?_
          refine Zs ?_
          refine Zm ?_
          refine Zm ?_
          refine Seq.pur rfl rfl (p_index (ad' := ad.add (i * 2)) rfl rfl rfl Tryz.underlying37 sz35 (by omega) (by omega) rfl) ?_
          refine Seq.pur rfl rfl (p_indexA (ad' := ad.add (i * 2)) rfl rfl rfl Tryz.underlying35 sz3 (by omega) (by omega) (by simp [Addr.add])) ?_
          refine Seq.val rfl rfl (v_load rfl rfl ag3 (has_old' hU)) ?_
          refine Za ?_
          refine Zx ?_
          refine Zs ?_
          refine Zm ?_
          refine Zm ?_
          refine Seq.pur rfl rfl (p_index (ad' := ad.add (i * 2)) rfl rfl rfl Tryz.underlying37 sz35 (by omega) (by omega) rfl) ?_
          refine Seq.pur rfl rfl (p_indexA (ad' := ad.add (i * 2 + 1)) rfl rfl rfl Tryz.underlying35 sz3 (by omega) (by omega) (add_add _ _ _ (by decide))) ?_
          refine Seq.val rfl rfl (v_load rfl rfl ag3 (has_old' hVe)) ?_
          refine Za ?_
          refine Zx ?_
          refine DC.cut (ι := Value × List Pr) (fun j => (x.1 < x.2 ∧ MkS (ps.take (i + 1)) j.2 ∧ j.2.length ≤ i + 1) ∨ (¬ x.1 < x.2 ∧ MkS (ps.take i) j.2 ∧ j.2.length ≤ i)) (fun j => [(0, .int .i64 n), (1, .slice (some ad) ps.length cap), (4, .pointer (some ⟨g4, 0, none⟩)), (9, j.1), (10, .int .i64 (i : Nat)), (11, .int .i64 x.1), (12, .int .i64 x.2)])
            (fun j => [slc j.1 43 2 (prs j.2), blk g4 24 #[.int .i64 0, .slice none 0 0]]) ?first17 ?rest17
          case first17 =>
            refine Zs ?_
            refine Zm ?_
            refine Zm ?_
            refine Zc ?_
            refine Zx ?_
            refine DC.cond rfl (fun c16 => ?_) (fun c16 => ?_)
            · refine DC.region ?_
              refine Zm ?_
              refine Zm ?_
              refine Zm ?_
              refine Seq.pur rfl rfl (p_struct (cs := #[_, _]) rfl rfl bs43 rfl rfl) ?_
              refine Seq.gen rfl rfl (g_call en36 rfl rfl rfl (Lc := [slc v 43 2 (prs es)]) (F := [blk g4 24 #[.int .i64 0, .slice none 0 0]]) (.refl _) (fun k hk => hk) (fun w hw => r3Put_calls2 (e := (x.1, x.2)) (hw.pick (.cons 0 rfl .nil)).self hmk.1 (by omega))) ?_
              rintro v76 _ ⟨_, ⟨es', rfl, hpu⟩, rfl⟩
              simp only [List.cons_append, List.nil_append]
              refine Za ?_
              refine Seq.nil ?_
              have hxx : x.1 < x.2 := by simpa using c16
              refine Fin.meet (v76, es') (.inl ⟨hxx, ?_, ?_⟩) ⟨rfl, rfl, rfl, rfl, rfl, rfl, rfl, trivial⟩ (.cons 0 rfl (.cons 0 rfl .nil))
              · rw [htk]; refine mks_put hmk (by omega) ?_
                have e1 : nrm x = (x.1, x.2) := by unfold nrm; rw [Int.min_eq_left (by omega), Int.max_eq_right (by omega)]
                rw [e1]; exact hpu
              · have := hpu.2.2; dsimp only; omega
            · refine DC.skip ?_
              refine Fin.meet (v, es) (.inr ⟨by simpa using c16, hmk, hel⟩) ⟨rfl, rfl, rfl, rfl, rfl, rfl, rfl, trivial⟩ (.cons 0 rfl (.cons 0 rfl .nil))
          case rest17 =>
            rintro ⟨v1, es1⟩ hh
            dsimp only at hh ⊢
            refine Zs ?_
            refine Zm ?_
            refine Zm ?_
            refine Zc ?_
            refine Zx ?_
            refine DC.cond rfl (fun c18 => ?_) (fun c18 => ?_)
            · have hxx : x.2 < x.1 := by simpa using c18
              have hmk1 : MkS (ps.take i) es1 ∧ es1.length ≤ i := by
                rcases hh with h | h
                · omega
                · exact h.2
              refine DC.region ?_
              refine Zm ?_
              refine Zm ?_
              refine Zm ?_
              refine Seq.pur rfl rfl (p_struct (cs := #[_, _]) rfl rfl bs43 rfl rfl) ?_
              refine Seq.gen rfl rfl (g_call en36 rfl rfl rfl (Lc := [slc v1 43 2 (prs es1)]) (F := [blk g4 24 #[.int .i64 0, .slice none 0 0]]) (.refl _) (fun k hk => hk) (fun w hw => r3Put_calls2 (e := (x.2, x.1)) (hw.pick (.cons 0 rfl .nil)).self hmk1.1.1 (by omega))) ?_
              rintro v84 _ ⟨_, ⟨es', rfl, hpu⟩, rfl⟩
              simp only [List.cons_append, List.nil_append]
              refine Za ?_
              refine Seq.nil ?_
              refine Fin.inBlock ?_
              refine Fin.then ?_
              refine DC.region ?_
              refine Zm ?_
              refine Zp ?_
              refine Za ?_
              refine Seq.nil ?_
              refine Fin.again ⟨i + 1, v84, es'⟩ (by dsimp only; omega) ⟨by dsimp only; omega, ?_, ?_⟩ ⟨rfl, rfl, rfl, rfl, rfl, trivial⟩ (.cons 0 rfl (.cons 0 rfl .nil))
              · dsimp only; rw [htk]; refine mks_put hmk1.1 (by omega) ?_
                have e1 : nrm x = (x.2, x.1) := by unfold nrm; rw [Int.min_eq_right (by omega), Int.max_eq_left (by omega)]
                rw [e1]; exact hpu
              · have := hpu.2.2; dsimp only; omega
            · refine DC.skip ?_
              refine Fin.inBlock ?_
              refine Fin.then ?_
              refine DC.region ?_
              refine Zm ?_
              refine Zp ?_
              refine Za ?_
              refine Seq.nil ?_
              have hxx : ¬ x.2 < x.1 := by simpa using c18
              have hmk1 : MkS (ps.take (i + 1)) es1 ∧ es1.length ≤ i + 1 := by
                rcases hh with h | h
                · exact h.2
                · rw [htk]; exact ⟨mks_skip h.2.1 (by omega), by omega⟩
              refine Fin.again ⟨i + 1, v1, es1⟩ (by dsimp only; omega) ⟨by dsimp only; omega, hmk1.1, hmk1.2⟩ ⟨rfl, rfl, rfl, rfl, rfl, trivial⟩ (.cons 0 rfl (.cons 0 rfl .nil))
        · refine DC.exit ?_
          refine Fin.exit_then <| Fin.exit_then <| Fin.exit_here <| ?_
          refine Fin.then ?_
          refine DC.seq ?_
          refine DC.seq ?_
          have hi2 : ps.length ≤ i := by simp at c12; omega
          rw [List.take_of_length_le hi2] at hmk
          refine DC.shapeP 0 rfl (by omega) ?_
          rintro ⟨Av, cv, rfl⟩
          refine DC.region ?_
          refine Zm ?_
          refine Zn Tryz.underlying22 ?_
          refine Seq.pur rfl rfl (p_gtr rfl rfl rfl) ?_
          refine Zx ?_
          refine DC.cond rfl (fun c20 => ?_) (fun c20 => ?_)
          · refine Zs ?_
            refine Seq.pur rfl rfl (p_struct (cs := #[_, _]) rfl rfl bs24 rfl rfl) ?_
            refine Seq.sto rfl rfl (s_stores (cs' := #[_, _]) rfl rfl rfl sz24 rfl (Nat.le_of_ble_eq_true rfl) rfl) ?_
            refine Za ?_
            refine Zx ?_
            refine DC.ret ?_
            refine Fin.ret_then <| ?_
            refine Fin.endct (cs := #[_, _]) (.inl rfl) rfl rfl rfl ag24 sz24 ?_
            refine ⟨[], fun w hw => hw.pick .nil, .inr ⟨141, by decide, rfl, rfl, .inr (.inr ⟨es, hmk, by simp at c20; omega⟩)⟩⟩
          · refine DC.skip ?_
            refine Fin.then ?_
            refine Zs ?_
            refine Zm ?_
            refine Zm ?_
            refine Seq.pur rfl rfl (p_struct (cs := #[_, _]) rfl rfl bs24 rfl rfl) ?_
            refine Seq.sto rfl rfl (s_stores (cs' := #[_, _]) rfl rfl rfl sz24 rfl (Nat.le_of_ble_eq_true rfl) rfl) ?_
            refine Za ?_
            refine Zx ?_
            refine DC.ret ?_
            refine Fin.endct (cs := #[_, _]) (.inl rfl) rfl rfl rfl ag24 sz24 ?_
            exact ⟨_, fun w hw => hw.pick (.cons 0 rfl .nil), .inl ⟨by simp at k1_2 c1; omega, hin, es, _, hmk, by simp at c20; omega, rfl, rfl⟩⟩
end Go.Fl

set_option linter.unusedVariables false
set_option linter.unusedSimpArgs false
set_option maxRecDepth 100000
namespace Go.Fl
open Go Go.Proofs
open Classical
/-! ### a rotation is flat or not, whatever way it was found -/
theorem rotR_uniq {N : Int} {es : List Pr} {ls rs rs' : List (List Int)} (hV : Vld N es) (h : RotR es ls rs) (h' : RotR es ls rs') : rs = rs' := by
  apply List.ext_getElem?
  intro v
  by_cases hv : v < ls.length
  · obtain ⟨l, hl⟩ : ∃ l, ls[v]? = some l := ⟨_, List.getElem?_eq_getElem hv⟩
    obtain ⟨r, hr⟩ : ∃ r, rs[v]? = some r := ⟨_, List.getElem?_eq_getElem (by rw [h.1]; exact hv)⟩
    obtain ⟨r', hr'⟩ : ∃ r, rs'[v]? = some r := ⟨_, List.getElem?_eq_getElem (by rw [h'.1]; exact hv)⟩
    rw [hr, hr']
    congr 1
    obtain ⟨q1, q2⟩ := h.2 v l r hl hr
    obtain ⟨q3, q4⟩ := h'.2 v l r' hl hr'
    apply List.ext_getElem?
    intro j
    by_cases hj : j < l.length
    · obtain ⟨u, hu⟩ : ∃ u, l[j]? = some u := ⟨_, List.getElem?_eq_getElem hj⟩
      obtain ⟨x, hx⟩ : ∃ x, r[j]? = some x := ⟨_, List.getElem?_eq_getElem (by omega)⟩
      obtain ⟨y, hy⟩ : ∃ y, r'[j]? = some y := ⟨_, List.getElem?_eq_getElem (by omega)⟩
      rw [hx, hy, (q2 j u x hu hx).uniq hV (q4 j u y hu hy)]
    · rw [List.getElem?_eq_none (by omega), List.getElem?_eq_none (by omega)]
  · rw [List.getElem?_eq_none (by rw [h.1]; omega), List.getElem?_eq_none (by rw [h'.1]; omega)]
theorem nx_uniq {n : Nat} {es : List Pr} {rs : List (List Int)} {f g : Nat → Int} (hok : RotL n es rs) (hf : NxOk rs rs.length f) (hg : NxOk rs rs.length g) {h : Nat} (hh : h < es.length * 2) : f h = g h := by
  obtain ⟨v, l, i, hl, hi, _⟩ := row_of hok hh
  have h1 := (row_next hok hf hl hi).1
  have h2 := (row_next hok hg hl hi).1
  rw [h1] at h2
  exact Option.some.inj h2
theorem faces_uniq {n : Nat} {es : List Pr} {rs : List (List Int)} {f g : Nat → Int} (hok : RotL n es rs) (hf : NxOk rs rs.length f) (hg : NxOk rs rs.length g) : facesN es f = facesN es g := by
  have hp := (nx_perm hok hf).1
  have htw : ∀ h, h < es.length * 2 → twn h < es.length * 2 := fun h hh => by unfold twn; split <;> omega
  have hit : ∀ h, h < es.length * 2 → ∀ k, itr (phi f) k h = itr (phi g) k h := by
    intro h hh k
    induction k with
    | zero => rfl
    | succ k ih =>
      have h1 := itr_lt hp hh k
      show phi f (itr (phi f) k h) = phi g (itr (phi g) k h)
      rw [← ih]
      show (f (twn (itr (phi f) k h))).toNat = (g (twn (itr (phi f) k h))).toNat
      rw [nx_uniq hok hf hg (htw _ h1)]
  unfold facesN headsOf
  congr 2
  apply List.filter_congr
  intro x hx
  have hx := List.mem_range.1 hx
  unfold Lead
  simp only [hit x hx]
theorem genus_uniq {n : Nat} {es : List Pr} {rs : List (List Int)} {f g : Nat → Int} (hok : RotL n es rs) (hf : NxOk rs rs.length f) (hg : NxOk rs rs.length g) : genus2 n es f = genus2 n es g := by
  unfold genus2; rw [faces_uniq hok hf hg]
/-- The lists say a flat rotation. -/
def FlatP (n : Nat) (es : List Pr) (ls : List (List Int)) : Prop := ∃ rs fn, RotR es ls rs ∧ NxOk rs rs.length fn ∧ genus2 n es fn = 0
theorem flatR_iff {n : Nat} {es : List Pr} {ls : List (List Int)} {b : Prop} (hok : RotOk n es ls) (h : FlatR n es ls b) : b ↔ FlatP n es ls := by
  obtain ⟨rs, fn, h1, h2, h3⟩ := h
  rw [h3]
  constructor
  · intro hb; exact ⟨rs, fn, h1, h2, hb⟩
  · rintro ⟨rs', fn', k1, k2, k3⟩
    have := rotR_uniq hok.1 h1 k1
    subst this
    rw [genus_uniq (rotL_of hok h1) h2 k2]; exact k3
/-- What check.Graph answers. -/
noncomputable def chkF (N : Int) (es : List Pr) (pl : Bool) (ls : List (List Int)) (cs : List Pr) : Int :=
  if ¬ Vld N es then 1
  else if ¬ TextOk pl ls cs then 181
  else if pl then (if ¬ RotOk N es ls then 182 else if ¬ FlatP N.toNat es ls then 183 else 0)
  else (if ¬ (∀ c, c ∈ cs → c ∈ es) then 184 else if ¬ KuraOk N.toNat cs then 185 else 0)
theorem steps1_calls {N : Int} {es : List Pr} {va c : Value} {w : World} {p v u : Value} (hg : PrV w va es) (hc : c = .agg #[p, v, u]) (h1 : p.oneCell' = true) (h2 : v.oneCell' = true) (h3 : u.oneCell' = true) :
    Calls Tryz.prog 54 #[.agg #[.int .i64 N, va], c] w (Ret w [] fun r M => M = [] ∧ ∃ b, r = .bool b ∧ (b = true ↔ Vld N es)) := by
  subst hc
  refine calls_of (args := [_, _]) (L := []) Tryz.func54 rfl Tryz.ntmps54 rfl (Own.start _ _) ?_
  refine Zs ?_
  refine Seq.new rfl rfl (n_box rfl rfl rfl) fun g2 => ?_
  refine Seq.new rfl rfl (n_box rfl rfl (cells3 h1 h2 h3)) fun g3 => ?_
  refine Za ?_
  refine Zx ?_
  refine Zs ?_
  refine Seq.val rfl rfl (v_loads (vs := [_, _]) rfl rfl ag24 sz24 rfl (hass_blk rfl)) ?_
  refine Seq.rel0 rfl rfl (r_call en41 rfl rfl rfl (fun w' hw => validP_calls (hg.keep0 hw))) ?_
  rintro _ ⟨b, rfl, hb⟩
  refine Za ?_
  refine Zx ?_
  refine DC.ret ?_
  refine Fin.weak (E' := [(4, _)]) ⟨rfl, trivial⟩ .nil ?_
  refine Fin.end1 (.inl rfl) rfl rfl ?_
  exact ⟨rfl, b, rfl, hb⟩
def fnv (f : Nat) : Value := .func (.func f) #[] #[]
def stepsA : Array Value := #[.int .i64 0, fnv 54, .int .i64 1, .int .i64 0, fnv 55, .int .i64 181, .int .i64 1, fnv 56, .int .i64 182, .int .i64 1, fnv 57, .int .i64 183, .int .i64 (-1), fnv 58, .int .i64 184, .int .i64 (-1), fnv 59, .int .i64 185]
theorem steps_calls (w : World) : Calls Tryz.prog 30 #[] w (Ret w [] fun r M => ∃ g, r = .slice (some ⟨g, 0, none⟩) 6 6 ∧ M = [blk g 69 stepsA]) := by
  refine calls_of (args := []) (L := []) Tryz.func30 rfl Tryz.ntmps30 rfl (Own.start _ _) ?_
  refine Zs ?_
  refine Za ?_
  refine Zx ?_
  refine Zs ?_
  refine Seq.pur rfl rfl (p_struct (cs := #[_, _, _]) rfl rfl bs69 rfl rfl) ?_
  refine Seq.pur rfl rfl (p_struct (cs := #[_, _, _]) rfl rfl bs69 rfl rfl) ?_
  refine Seq.pur rfl rfl (p_struct (cs := #[_, _, _]) rfl rfl bs69 rfl rfl) ?_
  refine Seq.pur rfl rfl (p_struct (cs := #[_, _, _]) rfl rfl bs69 rfl rfl) ?_
  refine Seq.pur rfl rfl (p_struct (cs := #[_, _, _]) rfl rfl bs69 rfl rfl) ?_
  refine Seq.pur rfl rfl (p_struct (cs := #[_, _, _]) rfl rfl bs69 rfl rfl) ?_
  refine Seq.new rfl rfl (n_slit (cs := #[_, _, _, _, _, _, _, _, _, _, _, _, _, _, _, _, _, _]) rfl rfl Tryz.underlying66 sz69 ze69 rfl (by decide) (by decide) rfl rfl) fun g7 => ?_
  refine Za ?_
  refine Zx ?_
  refine DC.ret ?_
  refine Fin.weak (E' := [(0, _)]) ⟨rfl, trivial⟩ (Pick.all _) ?_
  refine Fin.end1 (.inl rfl) rfl rfl ?_
  exact ⟨g7, rfl, rfl⟩
end Go.Fl

set_option linter.unusedVariables false
set_option linter.unusedSimpArgs false
set_option maxRecDepth 100000
namespace Go.Fl
open Go Go.Proofs
open Classical
def ofS : Nat → Int
  | 0 => 0
  | 1 => 0
  | 2 => 1
  | 3 => 1
  | _ => -1
def fnS : Nat → Nat
  | 0 => 54
  | 1 => 55
  | 2 => 56
  | 3 => 57
  | 4 => 58
  | _ => 59
def badS : Nat → Int
  | 0 => 1
  | 1 => 181
  | 2 => 182
  | 3 => 183
  | 4 => 184
  | _ => 185
theorem stepsA_at {i : Nat} (hi : i < 6) : (stepsA.toList.drop (i * 3)).take [Value.int .i64 (ofS i), fnv (fnS i), .int .i64 (badS i)].length = [.int .i64 (ofS i), fnv (fnS i), .int .i64 (badS i)] := by
  rcases (show i = 0 ∨ i = 1 ∨ i = 2 ∨ i = 3 ∨ i = 4 ∨ i = 5 by omega) with rfl | rfl | rfl | rfl | rfl | rfl <;> rfl
theorem fnS_ent {i : Nat} (hi : i < 6) : Ent Tryz.prog (fnS i) := by
  rcases (show i = 0 ∨ i = 1 ∨ i = 2 ∨ i = 3 ∨ i = 4 ∨ i = 5 by omega) with rfl | rfl | rfl | rfl | rfl | rfl
  · exact en54
  · exact en55
  · exact en56
  · exact en57
  · exact en58
  · exact en59
/-- What each step asks. -/
def PS (N : Int) (es : List Pr) (pl : Bool) (ls : List (List Int)) (cs : List Pr) : Nat → Prop
  | 0 => Vld N es
  | 1 => TextOk pl ls cs
  | 2 => RotOk N es ls
  | 3 => FlatP N.toNat es ls
  | 4 => ∀ c, c ∈ cs → c ∈ es
  | _ => KuraOk N.toNat cs
def kindS (pl : Bool) : Int := if pl then 1 else -1
def Appl (pl : Bool) (i : Nat) : Prop := ofS i = 0 ∨ ofS i = kindS pl
theorem step_calls {N : Int} {pl : Bool} {es cs : List Pr} {ls : List (List Int)} {va v u : Value} {w : World} (hg : PrV w va es) (hv : LsV w v ls) (hu : PrV w u cs) (hp : Pow w) (hs : ∀ l, l ∈ ls → l.length ≤ 2097152)
    {i : Nat} (hi : i < 6) (ha : Appl pl i) (hall : ∀ j, j < i → Appl pl j → PS N es pl ls cs j) :
    Calls Tryz.prog (fnS i) #[.agg #[.int .i64 N, va], .agg #[.bool pl, v, u]] w (Ret w [] fun r M => M = [] ∧ ∃ b, r = .bool b ∧ (b = true ↔ PS N es pl ls cs i)) := by
  have hv1 : v.oneCell' = true := by obtain ⟨A, c, rfl, _⟩ := hv; rfl
  have hu1 : u.oneCell' = true := by obtain ⟨A, c, rfl, _⟩ := hu; rfl
  have h0 : 0 < i → Vld N es := fun h => hall 0 h (.inl rfl)
  have hnat : 0 < i → ((N.toNat : Nat) : Int) = N := fun h => by have := (h0 h).lo; omega
  have h1 : 1 < i → TextOk pl ls cs := fun h => hall 1 h (.inl rfl)
  have hedges : 1 < i → pl = false → EdgesOk cs := fun h hpl => by
    have := (h1 h).1
    rw [hpl] at this
    exact this.2
  rcases (show i = 0 ∨ i = 1 ∨ i = 2 ∨ i = 3 ∨ i = 4 ∨ i = 5 by omega) with rfl | rfl | rfl | rfl | rfl | rfl
  · exact steps1_calls hg rfl rfl hv1 hu1
  · exact mayBe_calls hv hu hp hs
  · exact turns_calls hg hv
  · have hpl : pl = true := by
      rcases ha with h | h
      · simp [ofS] at h
      · cases pl
        · simp [ofS, kindS] at h
        · rfl
    have hr : RotOk N es ls := hall 2 (by omega) (.inr (by rw [hpl]; rfl))
    rw [← hnat (by omega)] at hr ⊢
    refine (cflat_calls hg hv hr).mono ?_
    rintro e w' ⟨r, L, rfl, ⟨rfl, b, rfl, hb⟩, hO⟩
    refine ⟨_, _, rfl, ⟨rfl, b, rfl, ?_⟩, hO⟩
    exact flatR_iff hr hb
  · exact within_calls hg hu
  · have hpl : pl = false := by
      rcases ha with h | h
      · simp [ofS] at h
      · cases pl
        · rfl
        · simp [ofS, kindS] at h
    have hin : ∀ c, c ∈ cs → c ∈ es := hall 4 (by omega) (.inr (by rw [hpl]; rfl))
    have hV := h0 (by omega)
    rw [← hnat (by omega)] at hV ⊢
    exact proves_calls hg hu hV (hedges (by omega) hpl) hin
theorem chk_bad {N : Int} {pl : Bool} {es cs : List Pr} {ls : List (List Int)} {i : Nat} (hi : i < 6) (ha : Appl pl i) (hall : ∀ j, j < i → Appl pl j → PS N es pl ls cs j) (hn : ¬ PS N es pl ls cs i) : chkF N es pl ls cs = badS i := by
  have h0 : 0 < i → Vld N es := fun h => hall 0 h (.inl rfl)
  have h1 : 1 < i → TextOk pl ls cs := fun h => hall 1 h (.inl rfl)
  unfold chkF
  have hk1 : ∀ {k : Int}, (k = 0 ∨ k = kindS true) → k = 0 ∨ k = 1 := fun h => h
  have hk2 : ∀ {k : Int}, (k = 0 ∨ k = kindS false) → k = 0 ∨ k = -1 := fun h => h
  rcases (show i = 0 ∨ i = 1 ∨ i = 2 ∨ i = 3 ∨ i = 4 ∨ i = 5 by omega) with rfl | rfl | rfl | rfl | rfl | rfl
  · have hn' : ¬ Vld N es := hn
    rw [if_pos hn']; rfl
  · have a0 := h0 (by omega)
    have hn' : ¬ TextOk pl ls cs := hn
    rw [if_neg (not_not_intro a0), if_pos hn']; rfl
  · have a0 := h0 (by omega)
    have a1 := h1 (by omega)
    have hn' : ¬ RotOk N es ls := hn
    rw [if_neg (not_not_intro a0), if_neg (not_not_intro a1)]
    cases pl
    · have := hk2 ha; simp [ofS] at this
    · rw [if_pos rfl, if_pos hn']; rfl
  · have a0 := h0 (by omega)
    have a1 := h1 (by omega)
    have hn' : ¬ FlatP N.toNat es ls := hn
    rw [if_neg (not_not_intro a0), if_neg (not_not_intro a1)]
    cases pl
    · have := hk2 ha; simp [ofS] at this
    · have a2 : RotOk N es ls := hall 2 (by omega) (.inr rfl)
      rw [if_pos rfl, if_neg (not_not_intro a2), if_pos hn']; rfl
  · have a0 := h0 (by omega)
    have a1 := h1 (by omega)
    have hn' : ¬ ∀ c, c ∈ cs → c ∈ es := hn
    rw [if_neg (not_not_intro a0), if_neg (not_not_intro a1)]
    cases pl
    · rw [if_neg (by simp), if_pos hn']; rfl
    · have := hk1 ha; simp [ofS] at this
  · have a0 := h0 (by omega)
    have a1 := h1 (by omega)
    have hn' : ¬ KuraOk N.toNat cs := hn
    rw [if_neg (not_not_intro a0), if_neg (not_not_intro a1)]
    cases pl
    · have a4 : ∀ c, c ∈ cs → c ∈ es := hall 4 (by omega) (.inr rfl)
      rw [if_neg (by simp), if_neg (not_not_intro a4), if_pos hn']; rfl
    · have := hk1 ha; simp [ofS] at this
theorem chk_ok {N : Int} {pl : Bool} {es cs : List Pr} {ls : List (List Int)} (hall : ∀ j, j < 6 → Appl pl j → PS N es pl ls cs j) : chkF N es pl ls cs = 0 := by
  unfold chkF
  have h0 : Vld N es := hall 0 (by omega) (.inl rfl)
  have h1 : TextOk pl ls cs := hall 1 (by omega) (.inl rfl)
  rw [if_neg (not_not_intro h0), if_neg (not_not_intro h1)]
  cases pl
  · have a4 : ∀ c, c ∈ cs → c ∈ es := hall 4 (by omega) (.inr rfl)
    have a5 : KuraOk N.toNat cs := hall 5 (by omega) (.inr rfl)
    rw [if_neg (by simp), if_neg (not_not_intro a4), if_neg (not_not_intro a5)]
  · have a2 : RotOk N es ls := hall 2 (by omega) (.inr rfl)
    have a3 : FlatP N.toNat es ls := hall 3 (by omega) (.inr rfl)
    rw [if_pos rfl, if_neg (not_not_intro a2), if_neg (not_not_intro a3)]
theorem Graph_calls {N : Int} {pl : Bool} {es cs : List Pr} {ls : List (List Int)} {va v u : Value} {w : World} (hg : PrV w va es) (hv : LsV w v ls) (hu : PrV w u cs) (hp : Pow w) (hs : ∀ l, l ∈ ls → l.length ≤ 2097152) :
    Calls Tryz.prog 10 #[.agg #[.int .i64 N, va], .agg #[.bool pl, v, u]] w (Ret w [] fun r M => M = [] ∧ r = .int .i64 (chkF N es pl ls cs)) := by
  have hga : ∃ A l c, va = .slice A l c := by obtain ⟨A, c, rfl, _⟩ := hg; exact ⟨_, _, _, rfl⟩
  have hva : ∃ A l c, v = .slice A l c := by obtain ⟨A, c, rfl, _⟩ := hv; exact ⟨_, _, _, rfl⟩
  have hua : ∃ A l c, u = .slice A l c := by obtain ⟨A, c, rfl, _⟩ := hu; exact ⟨_, _, _, rfl⟩
  obtain ⟨A1, l1, c1, rfl⟩ := hga
  obtain ⟨A2, l2, c2, rfl⟩ := hva
  obtain ⟨A3, l3, c3, rfl⟩ := hua
  refine calls_of (args := [_, _]) (L := []) Tryz.func10 rfl Tryz.ntmps10 rfl (Own.start _ _) ?_
  refine Zs ?_
  refine Seq.new rfl rfl (n_box rfl rfl rfl) fun g2 => ?_
  refine Seq.new rfl rfl (n_box rfl rfl rfl) fun g3 => ?_
  refine Za ?_
  refine Zx ?_
  refine Zs ?_
  refine Za ?_
  refine Zx ?_
  refine DC.cut (ι := Unit) (fun _ => True) (fun _ => [(2, .pointer (some ⟨g2, 0, none⟩)), (3, .pointer (some ⟨g3, 0, none⟩)), (5, .int .i64 (kindS pl))]) (fun _ => [blk g3 27 #[.bool pl, .slice A2 l2 c2, .slice A3 l3 c3], blk g2 24 #[.int .i64 N, .slice A1 l1 c1]]) ?first3 ?rest3
  case first3 =>
    refine Zs ?_
    refine Zf fi27_0 ?_
    refine Zl ag4 ?_
    refine Zx ?_
    refine DC.cond rfl (fun c2 => ?_) (fun c2 => ?_)
    · refine DC.region ?_
      refine Za ?_
      refine Seq.nil ?_
      refine Fin.meet () trivial ⟨rfl, rfl, by rw [show pl = true from c2]; rfl, trivial⟩ (Pick.all _)
    · refine DC.skip ?_
      refine Fin.meet () trivial ⟨rfl, rfl, by rw [show pl = false from c2]; rfl, trivial⟩ (Pick.all _)
  case rest3 =>
    rintro _ _
    refine DC.seq ?_
    refine Zs ?_
    refine Seq.rel rfl rfl (r_call en30 rfl rfl rfl (fun w' hw => steps_calls w')) ?_
    rintro _ _ ⟨gs, rfl, rfl⟩
    simp only [List.cons_append, List.nil_append]
    refine Zn Tryz.underlying66 ?_
    refine Zm ?_
    refine Zx ?_
    refine DC.block ?_
    refine DC.loop (ι := Nat) (fun i => i ≤ 6 ∧ ∀ j, j < i → Appl pl j → PS N es pl ls cs j)
      (fun i => [(2, .pointer (some ⟨g2, 0, none⟩)), (3, .pointer (some ⟨g3, 0, none⟩)), (5, .int .i64 (kindS pl)), (10, .slice (some ⟨gs, 0, none⟩) 6 6), (11, .int .i64 6), (12, .int .i64 i)])
      (fun _ => [blk gs 69 stepsA, blk g3 27 #[.bool pl, .slice A2 l2 c2, .slice A3 l3 c3], blk g2 24 #[.int .i64 N, .slice A1 l1 c1]]) (fun i => 6 - i) 0 ⟨Nat.zero_le _, fun _ h => absurd h (Nat.not_lt_zero _)⟩
      ⟨rfl, rfl, rfl, rfl, rfl, rfl, trivial⟩ (Pick.all _) ?_
    rintro i ⟨hi, hall⟩
    refine Zs ?_
    refine Zc ?_
    refine Zx ?_
    refine DC.seq ?_
    refine DC.cond rfl (fun c5 => ?_) (fun c5 => ?_)
    · have hlt : i < 6 := by simp at c5; omega
      refine DC.skip ?_
      refine Fin.then ?_
      refine DC.seq ?_
      refine DC.block ?_
      refine Zs ?_
      refine Seq.pur rfl rfl (p_index (ad' := ⟨gs, i * 3, none⟩) rfl rfl rfl Tryz.underlying66 sz69 (by omega) (by omega) (add_at0 _ _)) ?_
      refine Seq.val rfl rfl (v_loads (vs := [.int .i64 (ofS i), fnv (fnS i), .int .i64 (badS i)]) rfl rfl ag69 sz69 rfl (hass_blk (stepsA_at hlt))) ?_
      refine Seq.new rfl rfl (n_alloc rfl ze69 rfl) fun g7 => ?_
      refine Seq.sto rfl rfl (s_stores (cs' := #[.int .i64 (ofS i), fnv (fnS i), .int .i64 (badS i)]) rfl rfl rfl sz69 rfl (Nat.le_of_ble_eq_true rfl) rfl) ?_
      refine Zx ?_
      refine Zs ?_
      refine Zf fi69_0 ?_
      refine Zl ag3 ?_
      refine Seq.pur rfl rfl (p_eql rfl rfl rfl) ?_
      refine Zm ?_
      refine Seq.split 19 rfl (fun k7_3 => ?_) (fun k7_3 => ?_)
      · refine Zk ?_
        refine Zk ?_
        refine Zk ?_
        refine Zk ?_
        refine Zt ?_
        refine Zm ?_
        refine Zf fi69_1 ?_
        refine Zl ag34 ?_
        refine Seq.val rfl rfl (v_loads (vs := [_, _]) rfl rfl ag24 sz24 rfl (hass_blk rfl)) ?_
        refine Seq.val rfl rfl (v_loads (vs := [_, _, _]) rfl rfl ag27 sz27 rfl (hass_blk rfl)) ?_
        have hap : Appl pl i := by first | exact .inl (by simpa using k7_3) | exact .inr (by simpa using k7_9)
        refine Seq.rel0 rfl rfl (r_call (fnS_ent hlt) rfl rfl rfl (fun w' hw => step_calls (hg.keep0 hw) (hv.keep0 hw) (hu.keep0 hw) (hp.keep0 hw) hs hlt hap hall)) ?_
        rintro _ ⟨b, rfl, hb⟩
        refine Seq.pur rfl rfl (p_not rfl rfl) ?_
        refine Zt ?_
        refine Zx ?_
        refine DC.cond rfl (fun c7 => ?_) (fun c7 => ?_)
        · refine Zs ?_
          refine Zf fi69_2 ?_
          refine Zl ag29 ?_
          refine Za ?_
          refine Zx ?_
          refine DC.ret ?_
          refine Fin.ret_block <| Fin.ret_then <| Fin.ret_then <| Fin.ret_block <| Fin.ret_then <| ?_
          refine Fin.weak (E' := [(4, _)]) ⟨rfl, trivial⟩ .nil ?_
          refine Fin.end1 (.inl rfl) rfl rfl ?_
          exact ⟨rfl, by rw [chk_bad hlt hap hall (fun h => by rw [hb.2 h] at c7; simp at c7)]⟩
        · refine DC.skip ?_
          refine Fin.inBlock ?_
          refine Fin.then ?_
          refine DC.region ?_
          refine Zp ?_
          refine Zm ?_
          refine Seq.nil ?_
          refine Fin.again (i + 1) (by omega) ⟨by omega, fun j hj hap' => ?_⟩ ⟨rfl, rfl, rfl, rfl, rfl, rfl, trivial⟩ (.cons 1 rfl (.cons 1 rfl (.cons 1 rfl .nil)))
          rcases Nat.lt_succ_iff_lt_or_eq.1 hj with hj | rfl
          · exact hall j hj hap'
          · exact hb.1 (by simpa using c7)
      · refine Zf fi69_0 ?_
        refine Zl ag3 ?_
        refine Zm ?_
        refine Seq.pur rfl rfl (p_eql rfl rfl rfl) ?_
        refine Zg ?_
        refine Zm ?_
        refine Seq.split 25 rfl (fun k7_9 => ?_) (fun k7_9 => ?_)
        · refine Zf fi69_1 ?_
          refine Zl ag34 ?_
          refine Seq.val rfl rfl (v_loads (vs := [_, _]) rfl rfl ag24 sz24 rfl (hass_blk rfl)) ?_
          refine Seq.val rfl rfl (v_loads (vs := [_, _, _]) rfl rfl ag27 sz27 rfl (hass_blk rfl)) ?_
          have hap : Appl pl i := by first | exact .inl (by simpa using k7_3) | exact .inr (by simpa using k7_9)
          refine Seq.rel0 rfl rfl (r_call (fnS_ent hlt) rfl rfl rfl (fun w' hw => step_calls (hg.keep0 hw) (hv.keep0 hw) (hu.keep0 hw) (hp.keep0 hw) hs hlt hap hall)) ?_
          rintro _ ⟨b, rfl, hb⟩
          refine Seq.pur rfl rfl (p_not rfl rfl) ?_
          refine Zt ?_
          refine Zx ?_
          refine DC.cond rfl (fun c7 => ?_) (fun c7 => ?_)
          · refine Zs ?_
            refine Zf fi69_2 ?_
            refine Zl ag29 ?_
            refine Za ?_
            refine Zx ?_
            refine DC.ret ?_
            refine Fin.ret_block <| Fin.ret_then <| Fin.ret_then <| Fin.ret_block <| Fin.ret_then <| ?_
            refine Fin.weak (E' := [(4, _)]) ⟨rfl, trivial⟩ .nil ?_
            refine Fin.end1 (.inl rfl) rfl rfl ?_
            exact ⟨rfl, by rw [chk_bad hlt hap hall (fun h => by rw [hb.2 h] at c7; simp at c7)]⟩
          · refine DC.skip ?_
            refine Fin.inBlock ?_
            refine Fin.then ?_
            refine DC.region ?_
            refine Zp ?_
            refine Zm ?_
            refine Seq.nil ?_
            refine Fin.again (i + 1) (by omega) ⟨by omega, fun j hj hap' => ?_⟩ ⟨rfl, rfl, rfl, rfl, rfl, rfl, trivial⟩ (.cons 1 rfl (.cons 1 rfl (.cons 1 rfl .nil)))
            rcases Nat.lt_succ_iff_lt_or_eq.1 hj with hj | rfl
            · exact hall j hj hap'
            · exact hb.1 (by simpa using c7)
        · refine Zk ?_
          refine Zk ?_
          refine Zk ?_
          refine Zk ?_
          refine Zk ?_
          refine Zk ?_
          refine Zg ?_
          refine Zx ?_
          refine DC.cond_f rfl ?_
          refine DC.skip ?_
          refine Fin.inBlock ?_
          refine Fin.then ?_
          refine DC.region ?_
          refine Zp ?_
          refine Zm ?_
          refine Seq.nil ?_
          refine Fin.again (i + 1) (by omega) ⟨by omega, fun j hj hap' => ?_⟩ ⟨rfl, rfl, rfl, rfl, rfl, rfl, trivial⟩ (.cons 1 rfl (.cons 1 rfl (.cons 1 rfl .nil)))
          rcases Nat.lt_succ_iff_lt_or_eq.1 hj with hj | rfl
          · exact hall j hj hap'
          · rcases hap' with h | h
            · simp at k7_3; exact absurd h k7_3
            · simp at k7_9; exact absurd h k7_9
    · refine DC.exit ?_
      refine Fin.exit_then <| Fin.exit_then <| Fin.exit_here <| ?_
      refine Fin.then ?_
      refine Zs ?_
      refine Za ?_
      refine Zx ?_
      refine DC.ret ?_
      refine Fin.weak (E' := [(4, _)]) ⟨rfl, trivial⟩ .nil ?_
      refine Fin.end1 (.inl rfl) rfl rfl ?_
      have hie : i = 6 := by simp at c5; omega
      subst hie
      exact ⟨rfl, by rw [chk_ok hall]⟩
end Go.Fl
