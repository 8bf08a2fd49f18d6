/- Part 1 of the proof: the library of the walk and the walks, in build order; no condition. -/
import Derived.WalkKit
import Derived.Orders
import Derived.Deep.LoopGhost
import Derived.IntWalk
import Derived.KernelRfl
import Derived.Below
import Derived.Test.YtdcddjeifaeiaaaGreatDoorProg
import Derived.Defers
import Derived.Recover
import Derived.MapKept
import Derived.ChangeKeysEq
import Derived.WideKeyRuns
import Derived.Lib.AppendStr
import Derived.Lib.UnsafeStr
import Derived.Lib.Join
import Derived.Laws.IdiomStrings
import Derived.Lib.ItoaNum
import Derived.Sort.Grow
import Derived.Deep.Draws
import Derived.Shelf.Strings.Builder1
import Derived.Shelf.Strings.OnBuilder
import Derived.Shelf.LaysM
import Derived.Shelf.Strconv.Itoa3
import Derived.Shelf.Slices.Reverse
import Derived.Ground.Names2Prog
import Derived.Shelf.Slices.Clone
import Derived.Test.YtdcddjeifaeiaaaGreatDoorChecked
import Derived.Sort.Row
import Derived.Scope
import Derived.Lib.SlBytesConst
import Derived.Maps.RangeRun
import Derived.Shelf.SlSortCmp.NoneTotal
import Derived.Shelf.SlicesG.Cmp
import Derived.Ground.SlsfProg
import Derived.Ground.SlgcProg
import Derived.RangeFuncNested
import Derived.RangeFuncCalls
import Derived.RangeFuncLeaves
import Derived.OrdersIn
import Derived.TacticsIn
import Derived.Sort.LoopGhostIn
import Derived.Shelf.SortM.Plain
import Derived.Shelf.SortM.SortNone
import Derived.Ground.SlgmProg
import Derived.Lib.SmallJoins
import Derived.Deep.SlicePairs
import Derived.Deep.Fields
import Derived.Carry
import Derived.ChangeSlices
import Derived.SizedLaws
import Derived.Lib.LaidU8
import Derived.LaidMore
import Derived.JoinedCond
import Derived.ProofKit
import Derived.OpenShut
import Derived.ChangeOld
import Derived.SevenTiedAt
import Derived.Test.YtdcddjeifaeiaaaGreatDoorRows
import Derived.Test.YtdcddjeifaeiaaaGreatDoorTie
import Derived.Test.YtdcddjeifaeiaaaGreatDoorCards
section
open Go Go.Proofs
noncomputable abbrev A1c := @Tryz.prog
abbrev A1d := @List.getElem?_eq_getElem
abbrev A1e := @List.getElem?_eq_some_iff
abbrev A1f := @Nat.le_of_ble_eq_true
abbrev A1g := @Int.toNat_natCast
abbrev A1h := @List.mem_of_getElem?
abbrev A1i := @Nat.lt_succ_iff_lt_or_eq
abbrev A1j := @List.mem_iff_getElem?
abbrev A1k := @List.sublist_cons_self
abbrev A1l := @List.nil_sublist
abbrev A1m := @List.mem_cons_self
abbrev A1n := @Int.eq_ofNat_of_zero_le
abbrev A1o := @List.getElem?_append_left
abbrev A1p := @List.getElem?_append_right
abbrev A1q := @List.mem_cons_of_mem
abbrev A1r := @List.mem_range
abbrev A1s := @List.eq_nil_of_length_eq_zero
abbrev A1t := @Array.getElem?_eq_some_iff
abbrev A1u := @List.getElem?_eq_none
abbrev A1v := @List.perm_append_comm
abbrev A1w := @Nat.not_lt_zero
abbrev A1x := @Tryz.underlying37
abbrev A1y := @Tryz.underlying22
abbrev A1z := @Tryz.underlying86
abbrev A1A := @Tryz.underlying130
abbrev A1B := @Tryz.underlying25
abbrev A1C := @List.mem_append
abbrev A1D := @List.mem_filter
abbrev A1E := @Nat.zero_le
abbrev A1F := @Nat.le_refl
abbrev A1G := @List.mem_map
abbrev A1H := @List.mem_cons
abbrev A1I := @List.nodup_append
abbrev A1J := @List.sublist_append_left
abbrev A1K := @List.cons_append
abbrev A1L := @List.append_assoc
abbrev A1M := @List.map_cons
abbrev A1N := @List.nil_append
abbrev A1O := @List.append_nil
abbrev A1P := @Bool.and_eq_true
abbrev A1Q := @List.countP_cons
abbrev A1R := @List.mem_flatMap
abbrev A1S := @List.length_map
abbrev A1T := @List.take_length
abbrev A1U := @List.getElem?_map
abbrev A1V := @List.length_append
abbrev A1W := @List.take_add_one
abbrev A1X := @List.filter_sublist
abbrev A1Y := @List.map_append
abbrev A1Z := @List.nodup_cons
abbrev A2a := @List.length_cons
abbrev A2b := @List.pairwise_map
abbrev A2c := @List.all_eq_true
abbrev A2d := @Nat.zero_add
abbrev A2e := @List.drop_eq_getElem_cons
abbrev A2f := @List.nodup_range
abbrev A2g := @Int.le_refl
abbrev A2h := @List.getElem?_replicate
abbrev A2i := @List.exists_mem_of_ne_nil
abbrev A2j := @List.getElem?_take
abbrev A2k := @List.length_pos_iff
abbrev A2l := @List.sum_cons
abbrev A2m := @List.length_range
abbrev A2n := @List.countP_le_length
abbrev A2o := @Option.map_eq_some_iff
abbrev A2p := @List.range_succ
abbrev A2q := @List.countP_eq_length_filter
abbrev A2r := @List.countP_append
abbrev A2s := @List.pairwise_append
abbrev A2t := @List.pairwise_iff_getElem
abbrev A2u := @Bool.false_eq_true
abbrev A2v := @Nat.eq_of_beq_eq_true
abbrev A2w := @List.mem_append_left
abbrev A2x := @Nat.add_zero
abbrev A2y := @Nat.mod_eq_of_lt
abbrev A2z := @List.ext_getElem?
abbrev A2A := @List.getElem?_set_self
abbrev A2B := @Option.getD_some
abbrev A2C := @List.pairwise_cons
abbrev A2D := @List.length_drop
abbrev A2E := @List.getElem?_set_ne
abbrev A2F := @List.mem_singleton
abbrev A2G := @Nat.le_trans
abbrev A2H := @List.length_nil
abbrev A2I := @List.map_congr_left
abbrev A2J := @List.length_filter_le
abbrev A2K := @List.flatMap_cons
abbrev A2L := @Array.getElem?_setIfInBounds_ne
abbrev A2M := @List.sublist_append_right
abbrev A2N := @List.mem_append_right
abbrev A2O := @Array.getElem?_modify
abbrev A2P := @List.getElem?_cons_succ
abbrev A2Q := @List.eraseIdx_cons_succ
abbrev A2R := @Nat.sub_zero
abbrev A2S := @List.getElem?_drop
abbrev A2T := @List.take_left
abbrev A2U := @List.filter_append
abbrev A2V := @List.perm_middle
abbrev A2W := @List.mem_of_mem_take
abbrev A2X := @Classical.choose_spec
abbrev A2Y := @List.append_inj'
abbrev A2Z := @List.take_of_length_le
abbrev A3a := @Bool.eq_iff_iff
abbrev A3b := @Array.getElem?_push
abbrev A3c := @Bool.not_eq_true'
abbrev A3d := @Nat.mul_one
abbrev A3e := @Array.length_toList
abbrev A3f := @Nat.add_mul
abbrev A3g := @List.length_take
abbrev A3h := @Nat.add_assoc
abbrev A3i := @Nat.succ_mul
abbrev A3j := @Nat.sub_self
abbrev A3k := @List.getElem?_set
abbrev A3l := @List.length_eq_zero_iff
abbrev A3m := @List.length_pos_of_mem
abbrev A3n := @List.mem_reverse
abbrev A3o := @Classical.not_not
abbrev A3p := @List.filter_cons_of_pos
abbrev A3q := @List.append_of_mem
abbrev A3r := @Array.getElem?_append
abbrev A3s := @List.take_append_drop
abbrev A3t := @List.map_set
abbrev A3u := @List.getElem?_toArray
abbrev A3v := @List.countP_eq_zero
abbrev A3w := @Nat.add_sub_cancel
abbrev A3x := @List.getElem?_inj
abbrev A3y := @Nat.mod_lt
abbrev A3z := @List.getLast?_eq_getElem?
abbrev A3A := @List.append_eq_nil_iff
abbrev A3B := @Int.toNat_of_nonneg
abbrev A3C := @List.eraseIdx_cons_zero
abbrev A3D := @List.filter_eq_self
abbrev A3E := @Array.ext_getElem?
abbrev A3F := @List.perm_ext_iff_of_nodup
abbrev A3G := @Array.toList_map
abbrev A3H := @List.map_map
abbrev A3I := @List.map_nil
abbrev A3J := @List.head?_eq_getElem?
abbrev A3K := @List.length_tail
abbrev A3L := @List.drop_length
abbrev A3M := @Option.map_some
abbrev A3N := @List.range_eq_range'
abbrev A3O := @List.range'_succ
abbrev A3P := @List.filter_cons
abbrev A3Q := @List.dropLast_concat_getLast
abbrev A3R := @List.countP_mono_left
abbrev A3S := @Bool.true_and
end
set_option linter.unusedVariables false
set_option linter.unusedSimpArgs false
set_option linter.unusedSectionVars false
set_option maxRecDepth 100000
namespace Go.Fl
open Go Go.Proofs
section
/-! ### slots -/
abbrev Env:=List (Nat×Value)
def Env.get:Env->Nat->Option Value
 | [],_=>none
 | (k,v)::r,t=>bif Nat.beq k t then some v else Env.get r t
def Env.put(E:Env)(d:Option Tmp)(v:Value):Env:=
 match d with
 | none=>E
 | some d=>(d,v)::E
theorem B5(E:Env)(d:Nat)(v:Value)(t:Nat):Env.get ((d,v)::E) t=if d=t then some v else E.get t:=by
 show(bif Nat.beq d t then some v else Env.get E t)=_;by_cases h:d=t
 .subst h;simp
 have:Nat.beq d t=false:=by rw[Bool.eq_false_iff];exact fun e=>h (A2v e)
 rw[this,if_neg h];rfl
theorem Ql(E:Env)(x y:Option Tmp)(v u:Value)(h:∀d,x=some d->y≠some d)(t:Nat):
  ((E.put x v).put y u).get t=((E.put y u).put x v).get t:=by
 cases x with
 | none=>rfl
 | some d=>
  cases y with
  | none=>rfl
  | some e=>
   have hne:d≠e:=fun he=>h d rfl (he▸rfl);simp only[Env.put,B5];by_cases h1:e=t
   .subst h1;simp[hne]
   simp[h1]
structure DM (n:Nat) (ds:List Deferred) (E:Env) (a:Act):Prop where
 size:a.tmps.size=n
 defers:a.defers=ds
 has:∀t v,E.get t=some v->t<n->a.tmps[t]? =some v
def ev(n:Nat)(E:Env):Operand->Option Value
 | .tmp t=>bif Nat.blt t n then E.get t else none
 | .const v=>some v
 | .global g=>some (.pointer (some ⟨g,0,none⟩))
 | .func f=>some (.func (.func f) #[] #[])
section
variable{n:Nat}{ds:List Deferred}{E E':Env}{a:Act}{x:Operand}{v:Value}
theorem DM.ev(h:DM n ds E a)(hx:ev n E x=some v):a.eval x=v:=by
 cases x with
 | tmp t=>
  replace hx:(bif Nat.blt t n then E.get t else none)=some v:=hx;cases hb:Nat.blt t n with
  | false=>rw[hb] at hx;cases hx
  | true=>
   rw[hb] at hx;have hlt:t<n:=by rw[Nat.blt_eq] at hb;exact hb
   have:=h.has t v hx hlt;simp[Act.eval,Array.getD_eq_getD_getElem?,this]
 | const v'=>simp[Fl.ev] at hx;simp[Act.eval,hx]
 | global g=>simp[Fl.ev] at hx;simp[Act.eval,hx]
 | func f=>simp[Fl.ev] at hx;simp[Act.eval,hx]
theorem DM.put(h:DM n ds E a)(d:Option Tmp)(v:Value):DM n ds (E.put d v) (a.put d v):=by
 cases d with
 | none=>exact h
 | some d=>
  refine⟨by simp[Act.put,h.size],h.defers,fun t u hu ht=>?_⟩;simp only[Env.put,B5] at hu;simp only[Act.put];by_cases hd:d=t
  .subst hd;simp at hu;subst hu;simp[h.size,ht]
  rw[if_neg hd] at hu;rw[A2L hd];exact h.has t u hu ht
theorem DM.mono(h:DM n ds E a)(hs:∀t v,E'.get t=some v->E.get t=some v):DM n ds E' a:=
 ⟨h.size,h.defers,fun t v ht hl=>h.has t v (hs t v ht) hl⟩
theorem DM.unput{d:Option Tmp}(h:DM n ds (E.put d v) a):∃a0,DM n ds E a0/\a=a0.put d v:=by
 cases d with
 | none=>exact⟨a,h,rfl⟩
 | some d=>
  by_cases hd:d<n
  .have hv:a.tmps[d]? =some v:=h.has d v (by simp[Env.put,B5]) hd;have back:∀u,(a.put (some d) u).put (some d) v=a:=fun u=>by
    have hsz:d<a.tmps.size:=by rw[h.size];exact hd
    cases a with
    | mk tm df=>
     simp only[Act.put,Act.mk.injEq,and_true];apply A3E;intro i;by_cases hi:d=i
     .subst hi;simp at hv ⊢;have:d<tm.size:=hsz;simp[this] at hv ⊢;exact hv.symm
     rw[A2L hi,A2L hi]
   cases hg:E.get d with
   | none=>
    refine⟨a,h.mono (fun t u hu=>?_),?_⟩
    .simp only[Env.put,B5];have:d≠t:=fun e=>by subst e;rw[hg] at hu;cases hu
     rw[if_neg this];exact hu
    have:=back v;have h2:a.put (some d) v=a:=by
     have hsz:d<a.tmps.size:=by rw[h.size];exact hd
     cases a with
     | mk tm df=>
      simp only[Act.put,Act.mk.injEq,and_true];apply A3E;intro i;by_cases hi:d=i
      .subst hi;simp at hv ⊢;have:d<tm.size:=hsz;simp[this] at hv ⊢;exact hv.symm
      rw[A2L hi]
    exact h2.symm
   | some u=>
    refine⟨a.put (some d) u,⟨by simp[Act.put,h.size],h.defers,fun t x hx ht=>?_⟩,(back u).symm⟩;simp only[Act.put];by_cases he:d=t
    .subst he;rw[hg] at hx;cases hx;have:d<a.tmps.size:=by rw[h.size];exact hd
     simp[this]
    rw[A2L he];exact h.has t x (by simp only[Env.put,B5];rw[if_neg he];exact hx) ht
  refine⟨a,⟨h.size,h.defers,fun t x hx ht=>h.has t x (by simp only[Env.put,B5];rw[if_neg (show ¬d=t from fun e=>hd (by rw[e];exact ht))];exact hx) ht⟩,?_⟩;cases a with
  | mk tm df=>
   have hs:tm.size=n:=h.size;simp only[Act.put,Act.mk.injEq,and_true];apply A3E;intro i;by_cases hi:d=i
   .subst hi;have:¬d<tm.size:=hs▸hd;simp[this]
   rw[A2L hi]
end
/-! ### memory -/
structure Chunk where
 ids:List Nat
 holds:World->Prop
 loc:∀w w':World,(∀g,g∈ids->w'.heap[g]? =w.heap[g]?)->holds w->holds w'
def AC(g t:Nat)(cs:Array Value):Chunk:=
 ⟨[g],fun w=>w.heap[g]? =some (.cells cs t (0,0)),fun w w' h hh=>(h g (A1m ..)).trans hh⟩
def AY(L:List Chunk):List Nat:=L.flatMap Chunk.ids
@[simp] theorem idsOf_nil:AY []=[]:=rfl
@[simp] theorem idsOf_cons (c:Chunk) (L:List Chunk):AY (c::L)=c.ids++AY L:=by simp[AY]
@[simp] theorem idsOf_append (L M:List Chunk):AY (L++M)=AY L++AY M:=by simp[AY]
theorem KC{L:List Chunk}{g:Nat}:g∈AY L↔∃c∈L,g∈c.ids:=by simp[AY]
class Lo where
 p:Prop
variable[Lo]
theorem Lo.trans{a b c:Nat}(h:Lo.p\/a<=b)(k:Lo.p\/b<=c):Lo.p\/a<=c:=h.elim .inl fun x=>k.elim .inl fun y=>.inr (A2G x y)
theorem Lo.refl(a:Nat):Lo.p\/a<=a:=.inr (A1F _)
structure AR (w0:World) (K:List Nat) (w:World) (L:List Chunk):Prop where
 os:w.os=w0.os
 tape:w.tape=w0.tape
 output:w.output=w0.output
 drawn:Lo.p\/w0.drawn<=w.drawn
 size:w0.heap.size<=w.heap.size
 old:∀k,k<w0.heap.size->k∉K->w.heap[k]? =w0.heap[k]?
 nodup:(AY L).Nodup
 fresh:∀g,g∈AY L->g∈K\/w0.heap.size<=g
 lt:∀g,g∈AY L->g<w.heap.size
 holds:∀c,c∈L->c.holds w
section
variable{w0 w w':World}{K K':List Nat}{L L' F:List Chunk}
theorem B8(w:World)(K:List Nat):AR w K w []:=
 ⟨rfl,rfl,rfl,Lo.refl _,A1F _,fun _ _ _=>rfl,by simp,by simp,by simp,by simp⟩
theorem AR.perm(h:AR w0 K w L)(hp:L'.Perm L):AR w0 K w L':=by
 have hi:(AY L').Perm (AY L):=hp.flatMap_right _;exact⟨h.os,h.tape,h.output,h.drawn,h.size,h.old,hi.nodup_iff.2 h.nodup,fun g hg=>h.fresh g (hi.mem_iff.1 hg),fun g hg=>h.lt g (hi.mem_iff.1 hg),
  fun c hc=>h.holds c (hp.mem_iff.1 hc)⟩
theorem IU(hs:L'.Sublist L):(AY L').Sublist (AY L):=by
 induction hs with
 | slnil=>exact List.Sublist.refl _
 | cons a _ ih=>simp only[idsOf_cons];exact ih.trans (A2M _ _)
 | cons_cons a _ ih=>simp only[idsOf_cons];exact ih.append_left _
theorem AR.sub(h:AR w0 K w L)(hs:L'.Sublist L):AR w0 K w L':=by
 have hi:=IU hs;exact⟨h.os,h.tape,h.output,h.drawn,h.size,h.old,hi.nodup h.nodup,fun g hg=>h.fresh g (hi.subset hg),fun g hg=>h.lt g (hi.subset hg),
  fun c hc=>h.holds c (hs.subset hc)⟩
theorem AR.drew(h:AR w0 K w L):AR w0 K { w with drawn:=w.drawn+1 } L:=
 ⟨h.os,h.tape,h.output,Lo.trans h.drawn (.inr (Nat.le_succ _)),h.size,h.old,h.nodup,h.fresh,h.lt,fun c hc=>c.loc w _ (fun _ _=>rfl) (h.holds c hc)⟩
theorem AR.frame{Lc:List Chunk}(h:AR w0 K w (Lc++F))(hc:AR w K' w' L')(hK:∀k,k∈K'->k∈AY Lc):AR w0 K w' (L'++F):=by
 have hnd:=h.nodup;rw[idsOf_append,A1I] at hnd;obtain⟨_,hndF,hdis⟩:=hnd;have hF:∀g,g∈AY F->g∉K':=fun g hg hk=>hdis g (hK g hk) g hg rfl;have hFlt:∀g,g∈AY F->g<w.heap.size:=fun g hg=>h.lt g (by simp[hg]);refine⟨hc.os.trans h.os,hc.tape.trans h.tape,hc.output.trans h.output,Lo.trans h.drawn hc.drawn,A2G h.size hc.size,?_,?_,?_,?_,?_⟩
 .intro k hk hnk;rw[hc.old k (Nat.lt_of_lt_of_le hk h.size) (fun hk'=>?_)]
  .exact h.old k hk hnk
  rcases h.fresh k (by rw[idsOf_append];exact A2w _ (hK k hk')) with h1|h1
  .exact hnk h1
  omega
 .rw[idsOf_append,A1I];refine⟨hc.nodup,hndF,fun a ha b hb hab=>?_⟩;subst hab;rcases hc.fresh a ha with h1|h1
  .exact hF a hb h1
  have:=hFlt a hb;omega
 .intro g hg;rw[idsOf_append,A1C] at hg;rcases hg with hg|hg
  .rcases hc.fresh g hg with h1|h1
   .exact h.fresh g (by rw[idsOf_append];exact A2w _ (hK g h1))
   exact .inr (A2G h.size h1)
  exact h.fresh g (by rw[idsOf_append];exact A2N _ hg)
 .intro g hg;rw[idsOf_append,A1C] at hg;rcases hg with hg|hg
  .exact hc.lt g hg
  exact Nat.lt_of_lt_of_le (hFlt g hg) hc.size
 intro c hcm;rw[A1C] at hcm;rcases hcm with hcm|hcm
 .exact hc.holds c hcm
 refine c.loc w w' (fun g hg=>?_) (h.holds c (A2N _ hcm));have hgF:g∈AY F:=KC.2 ⟨c,hcm,hg⟩;exact hc.old g (hFlt g hgF) (hF g hgF)
theorem AR.add(h:AR w0 K w F)(hc:AR w [] w' L'):AR w0 K w' (L'++F):=
 AR.frame (Lc:=[]) h hc (fun k hk=>by simp at hk)
theorem Ut(w:World)(t:Nat)(cs:Array Value):AR w [] (w.alloc (.cells cs t)) [AC w.heap.size t cs]:=by
 refine⟨rfl,rfl,rfl,Lo.refl _,by simp,fun k hk _=>?_,by simp[AC],fun g hg=>?_,fun g hg=>?_,fun c hc=>?_⟩
 .simp only[World.alloc,A3b];rw[if_neg (by omega)]
 .simp[AC] at hg;subst hg;exact .inr (A1F _)
 .simp[AC] at hg;subst hg;simp
 simp at hc;subst hc;show(w.heap.push _)[w.heap.size]? =_;simp
theorem AR.alloc(h:AR w0 K w L)(t:Nat)(cs:Array Value):AR w0 K (w.alloc (.cells cs t)) (AC w.heap.size t cs::L):=
 h.add (Ut w t cs)
theorem Z9{g t:Nat}{cs:Array Value}(hg:w.heap[g]? =some (.cells cs t (0,0)))(i:Nat)(v:Value):
  AR w [g] (w.setCell ⟨g,i,none⟩ v) [AC g t (cs.setIfInBounds i v)]:=by
 have hlt:g<w.heap.size:=(A1t.1 hg).1;refine⟨rfl,rfl,rfl,Lo.refl _,by simp,fun k hk hn=>?_,by simp[AC],fun x hx=>?_,fun x hx=>?_,fun c hc=>?_⟩
 .simp at hn;simp only[World.setCell,A2O];rw[if_neg (by omega)]
 .simp[AC] at hx;subst hx;exact .inl (by simp)
 .simp[AC] at hx;subst hx;simpa using hlt
 simp at hc;subst hc;simp[AC,World.setCell,A2O,hg]
theorem AR.set{g t:Nat}{cs:Array Value}(h:AR w0 K w (AC g t cs::L))(i:Nat)(v:Value):
  AR w0 K (w.setCell ⟨g,i,none⟩ v) (AC g t (cs.setIfInBounds i v)::L):=
 AR.frame (Lc:=[AC g t cs]) h (Z9 (h.holds _ (A1m ..)) i v) (fun k hk=>by simp[AC] at hk ⊢;exact hk)
theorem AR.oldCell(h:AR w0 K w L){p:Addr}(hp:p.block<w0.heap.size)(hn:p.block∉K):w.cell? p=w0.cell? p:=
 World.cell?_of_block (h.old p.block hp hn)
end
end
section
variable[Lo]
def B1(P:Program)(s:Sem Next)(w:World)(R:Value->World->Prop):Prop:=
 match s.run P w with
 | .ok (.value v) w'=>R v w'
 | .ok .skip w'=>R undef w'
 | .ok (.enter f args) w'=>Calls P f args w' (fun e w''=>∃v,e= .returned v/\R v w'')
 | .ok (.row row args) w'=>Rows P row args w' R
 | _=>False
section
variable{P:Program}{s:Sem Next}{w:World}{R R':Value->World->Prop}
theorem B1.mono(h:B1 P s w R)(hr:∀v w',R v w'->R' v w'):B1 P s w R':=by
 unfold B1 at *;generalize s.run P w=r at *;cases r with
 | ok x w'=>
  cases x<;>first
   | exact h.elim
   | exact hr _ _ h
   | exact Calls.mono h (fun e w'' ⟨v,he,hv⟩=>⟨v,he,hr _ _ hv⟩)
   | exact Rows.mono h hr
 | halt x w'=>exact h.elim
theorem B1.some(h:B1 P s w R):∃v w',R v w':=by
 unfold B1 at h;generalize s.run P w=r at h;cases r with
 | ok x w'=>
  cases x<;>first
   | exact h.elim
   | exact⟨_,_,h⟩
   | (obtain⟨e,w'',fr,⟨v,_,hv⟩,_⟩:=h [];exact⟨v,w'',hv⟩)
   | (obtain⟨v,w'',hv,_⟩:=h default [];exact⟨v,w'',hv⟩)
 | halt x w'=>exact h.elim
theorem B1.wp{o:Oper}{a:Act}{next:Act->World->Prop}{Q:Exit->Act->World->Prop}(h:B1 P (execOp a.eval o) w R)
 (hn:∀v w',R v w'->next (a.put o.dst v) w'):o.wp P a w next Q:=by
 unfold B1 at h;unfold Oper.wp;generalize (execOp a.eval o).run P w=r at h;cases r with
 | ok x w'=>
  cases x<;>first
   | exact h.elim
   | exact hn _ _ h
   | exact Calls.mono h (fun e w'' ⟨v,he,hv⟩=>by subst he;exact hn _ _ hv)
   | exact Rows.mono h hn
 | halt x w'=>exact h.elim
theorem B1.value{v:Value}{w':World}(h:s.run P w= .ok (.value v) w')(hR:R v w'):B1 P s w R:=by
 unfold B1;rw[h];exact hR
end
inductive Qy|v|n|r|g|q|s|c (C:Value->List Chunk->Prop)
inductive Uv|ptr|sl (len cap:Nat)
def Uv.val:Uv->Nat->Value
 | .ptr,g=>.pointer (some ⟨g,0,none⟩)
 | .sl len cap,g=>.slice (some ⟨g,0,none⟩) len cap
theorem Kf{x y:Uv}{g:Nat}(h:x.val g=y.val g):x=y:=by
 cases x<;>cases y<;>simp[Uv.val] at h ⊢;exact h
def HN(A:List Nat)(i:Nat)(Ln:List (Nat×Chunk)):List Chunk:=(Ln.filter fun p=>(A.getD i 0).testBit p.1).map (·.2)
theorem Ey{A:List Nat}{i x:Nat}{Ln:List (Nat×Chunk)}(c:Chunk)(h:(A.getD i 0).testBit x=false):HN A i ((x,c)::Ln)=HN A i Ln:=by
 unfold HN;rw[List.filter_cons_of_neg (by simp only[h];decide)]
theorem Eu{A:List Nat}{i x:Nat}{Ln:List (Nat×Chunk)}(L:List Chunk)(h:(A.getD i 0).testBit x=false):HN A i (L.map (fun c=>(x,c))++Ln)=HN A i Ln:=by
 induction L with
 | nil=>rfl
 | cons c L ih=>simp only[A1M,A1K];rw[Ey _ h,ih]
theorem A0v(A:List Nat)(i:Nat)(Ln:List (Nat×Chunk)):(HN A i Ln).Sublist (Ln.map (·.2)):=by
 unfold HN;exact A1X.map _
theorem Js{A:List Nat}{i:Nat}{Ln Ln':List (Nat×Chunk)}(h:Ln'.Perm Ln):(HN A i Ln').Perm (HN A i Ln):=(h.filter _).map _
def Yd(P:Program)(ops:Array Oper)(o:Oper)(v:Value)(a:Act)(w:World):Prop:=
 (Region.wanted o (yielded ops a.tmps)=true/\(execOp a.eval o).run P w= .ok (.value v) w)\/(Region.wanted o (yielded ops a.tmps)=false/\v=undef)
section
variable{P:Program}{ops:Array Oper}
theorem Yd.unique{o:Oper}{v u:Value}{a:Act}{w:World}(h:Yd P ops o v a w)(k:Yd P ops o u a w):v=u:=by
 rcases h with⟨h1,h2⟩|⟨h1,h2⟩<;>rcases k with⟨k1,k2⟩|⟨k1,k2⟩
 .rw[h2] at k2;cases k2;rfl
 .rw[h1] at k1;cases k1
 .rw[h1] at k1;cases k1
 rw[h2,k2]
theorem Yd.put{o:Oper}{v u:Value}{d:Option Tmp}{a:Act}{w:World}(hs:∀cs b,o.op≠.select cs b)(hd:∀t,d=some t->t∉o.looksAt ops):
  Yd P ops o v (a.put d u) w↔Yd P ops o v a w:=by
 unfold Yd;rw[execOp_put o hs a d u hd,wanted_put o a d u hd]
end
section
variable(P:Program)(ops:Array Oper)(w0:World)(K:List Nat)(n:Nat)(ds:List Deferred)(Lf:List Chunk)(cl:List Qy)(A:List Nat)(Q:Act->World->Prop)
inductive BF:List Nat->Env->List Chunk->List (Nat×Chunk)->Prop
 | done {E Ls Ln}:(∀a w,DM n ds E a->AR w0 K w (Ln.map (·.2)++Ls)->Q a w)->BF [] E Ls Ln
 | void {l E Ls Ln}:(∀a w,DM n ds E a->AR w0 K w (Ln.map (·.2)++Ls)->AR w0 K w Lf->False)->BF l E Ls Ln
 | val {i r E Ls Ln o v} (ml:Bool) (ho:ops[i]? =some o) (hm:ml=true\/cl.getD i .q= .v)
   (hv:∀a w,DM n ds E a->AR w0 K w Lf->(ml=true\/AR w0 K w (HN A i Ln++Ls))->Yd P ops o v a w)
   (h:BF r (E.put o.dst v) Ls Ln):BF (i::r) E Ls Ln
 | new {i r E Ls Ln o} (ho:ops[i]? =some o) (hc:cl.getD i .q= .n) (hw:∀a,DM n ds E a->Region.wanted o (yielded ops a.tmps)=true) (nv:Uv) (t:Nat) (cs:Array Value)
   (hx:∀a w,DM n ds E a->(execOp a.eval o).run P w= .ok (.value (nv.val w.heap.size)) (w.alloc (.cells cs t)))
   (h:∀g,BF r (E.put o.dst (nv.val g)) Ls ((i,AC g t cs)::Ln)):BF (i::r) E Ls Ln
 | rel {i r E Ls Ln o} (ho:ops[i]? =some o) (hc:cl.getD i .q= .r) (hw:∀a,DM n ds E a->Region.wanted o (yielded ops a.tmps)=true) (C:Value->List Chunk->Prop)
   (hx:∀a w,DM n ds E a->AR w0 K w (HN A i Ln++Ls)->B1 P (execOp a.eval o) w (fun v w'=>∃L',C v L'/\AR w [] w' L'))
   (h:∀v L',C v L'->BF r (E.put o.dst v) Ls (L'.map (fun c=>(i,c))++Ln)):BF (i::r) E Ls Ln
 | relc {i r E Ls Ln o} (C:Value->List Chunk->Prop) (ho:ops[i]? =some o) (hc:cl.getD i .q= .c C) (hne:∀v L',C v L'->AY L'≠[]) (hw:∀a,DM n ds E a->Region.wanted o (yielded ops a.tmps)=true)
   (hx:∀a w,DM n ds E a->AR w0 K w (HN A i Ln++Ls)->B1 P (execOp a.eval o) w (fun v w'=>∃L',C v L'/\AR w [] w' L'))
   (h:∀v L',C v L'->BF r (E.put o.dst v) Ls (L'.map (fun c=>(i,c))++Ln)):BF (i::r) E Ls Ln
 | gen {i r E Ls Ln o} (ho:ops[i]? =some o) (hc:cl.getD i .q= .g) (hw:∀a,DM n ds E a->Region.wanted o (yielded ops a.tmps)=true) (C:Value->List Chunk->Prop)
   (hx:∀a w,DM n ds E a->AR w0 K w (Ln.map (·.2)++Ls)->B1 P (execOp a.eval o) w (fun v w'=>∃L',C v L'/\AR w0 K w' L'))
   (hl:∀v L',C v L'->∀w,AR w0 K w L'->AR w0 K w Lf)
   (h:∀v L',C v L'->BF r (E.put o.dst v) L' []):BF (i::r) E Ls Ln
 | stl {i r E Ls Ln o} (L':List Chunk) (ho:ops[i]? =some o) (hc:cl.getD i .q= .s) (hw:∀a,DM n ds E a->Region.wanted o (yielded ops a.tmps)=true)
   (hx:∀a w F,DM n ds E a->AR w0 K w (Ln.map (·.2)++Ls++F)->B1 P (execOp a.eval o) w (fun v w'=>v=undef/\AR w0 K w' (L'++F)))
   (hl:∀w,AR w0 K w L'->AR w0 K w Lf)
   (h:BF r (E.put o.dst undef) L' []):BF (i::r) E Ls Ln
end
section
variable{P:Program}{ops:Array Oper}{w0:World}{K:List Nat}{n:Nat}{ds:List Deferred}{Lf:List Chunk}{cl:List Qy}{A:List Nat}{Q:Act->World->Prop}
theorem Ir{E E':Env}(h:∀t,E'.get t=E.get t)(d:Option Tmp)(v:Value)(t:Nat):(E'.put d v).get t=(E.put d v).get t:=by
 cases d with
 | none=>exact h t
 | some d=>simp only[Env.put,B5,h]
theorem BF.congr{l:List Nat}{E:Env}{Ls:List Chunk}{Ln:List (Nat×Chunk)}(h:BF P ops w0 K n ds Lf cl A Q l E Ls Ln):
  ∀{E':Env} {Ln':List (Nat×Chunk)},(∀t,E'.get t=E.get t)->Ln'.Perm Ln->BF P ops w0 K n ds Lf cl A Q l E' Ls Ln':=by
 induction h with
 | done hd=>
  intro E' Ln' he hp;exact .done fun a w hs hw=>hd a w (hs.mono fun t v h=>by rw[he];exact h) (hw.perm ((hp.symm.map _).append_right _))
 | void hd=>
  intro E' Ln' he hp;exact .void fun a w hs hw=>hd a w (hs.mono fun t v h=>by rw[he];exact h) (hw.perm ((hp.symm.map _).append_right _))
 | val ml ho hm hv _ ih=>
  intro E' Ln' he hp;exact .val ml ho hm (fun a w hs hf hw=>hv a w (hs.mono fun t v h=>by rw[he];exact h) hf (hw.imp id fun hw=>hw.perm ((Js hp.symm).append_right _)))
   (ih (Ir he _ _) hp)
 | new ho hc hw nv t cs hx _ ih=>
  intro E' Ln' he hp;exact .new ho hc (fun a hs=>hw a (hs.mono fun t v h=>by rw[he];exact h)) nv t cs (fun a w hs=>hx a w (hs.mono fun t v h=>by rw[he];exact h))
   (fun g=>ih g (Ir he _ _) (hp.cons _))
 | rel ho hc hw C hx _ ih=>
  intro E' Ln' he hp;exact .rel ho hc (fun a hs=>hw a (hs.mono fun t v h=>by rw[he];exact h)) C
   (fun a w hs hw=>hx a w (hs.mono fun t v h=>by rw[he];exact h) (hw.perm ((Js hp.symm).append_right _)))
   (fun v L' hC=>ih v L' hC (Ir he _ _) (hp.append_left _))
 | relc C ho hc hne hw hx _ ih=>
  intro E' Ln' he hp;exact .relc C ho hc hne (fun a hs=>hw a (hs.mono fun t v h=>by rw[he];exact h))
   (fun a w hs hw=>hx a w (hs.mono fun t v h=>by rw[he];exact h) (hw.perm ((Js hp.symm).append_right _)))
   (fun v L' hC=>ih v L' hC (Ir he _ _) (hp.append_left _))
 | gen ho hc hw C hx hl _ ih=>
  intro E' Ln' he hp;exact .gen ho hc (fun a hs=>hw a (hs.mono fun t v h=>by rw[he];exact h)) C
   (fun a w hs hw=>hx a w (hs.mono fun t v h=>by rw[he];exact h) (hw.perm ((hp.symm.map _).append_right _))) hl
   (fun v L' hC=>ih v L' hC (Ir he _ _) (List.Perm.refl _))
 | stl L' ho hc hw hx hl _ ih=>
  intro E' Ln' he hp;exact .stl L' ho hc (fun a hs=>hw a (hs.mono fun t v h=>by rw[he];exact h))
   (fun a w F hs hw=>hx a w F (hs.mono fun t v h=>by rw[he];exact h) (hw.perm (((hp.symm.map _).append_right _).append_right _))) hl
   (ih (Ir he _ _) (List.Perm.refl _))
theorem I5{w:World}{Ls:List Chunk}{Ln0 Ln:List (Nat×Chunk)}{j:Nat}{c:Chunk}(i:Nat)(hp:Ln0.Perm ((j,c)::Ln))(h:AR w0 K w (HN A i Ln++c::Ls)):AR w0 K w (HN A i Ln0++Ls):=by
 have h1:=Js (A:=A) (i:=i) hp;by_cases hb:(A.getD i 0).testBit j=true
 .have e:HN A i ((j,c)::Ln)=c::HN A i Ln:=by unfold HN;rw[A3p (by simpa using hb)];rfl
  rw[e] at h1;exact h.perm ((h1.append_right Ls).trans A2V.symm)
 have e:HN A i ((j,c)::Ln)=HN A i Ln:=Ey c (by simpa using hb);rw[e] at h1;exact(h.sub ((List.Sublist.refl _).append (A1k c Ls))).perm (h1.append_right Ls)
theorem BF.settle{l:List Nat}{E:Env}{Ls:List Chunk}{Ln0:List (Nat×Chunk)}(h:BF P ops w0 K n ds Lf cl A Q l E Ls Ln0):
  ∀{Ln:List (Nat×Chunk)} {j:Nat} {c:Chunk},Ln0.Perm ((j,c)::Ln)->BF P ops w0 K n ds Lf cl A Q l E (c::Ls) Ln:=by
 have pm:∀{Ls:List Chunk} {Ln0 Ln:List (Nat×Chunk)} {j:Nat} {c:Chunk},Ln0.Perm ((j,c)::Ln)->(Ln0.map (·.2)++Ls).Perm (Ln.map (·.2)++c::Ls):=fun hp=>
  ((hp.map _).append_right _).trans A2V.symm
 induction h with
 | done hd=>intro Ln j c hp;exact .done fun a w hs hw=>hd a w hs (hw.perm (pm hp))
 | void hd=>intro Ln j c hp;exact .void fun a w hs hw hf=>hd a w hs (hw.perm (pm hp)) hf
 | val ml ho hm hv _ ih=>
  intro Ln j c hp;exact .val ml ho hm (fun a w hs hf hw=>hv a w hs hf (hw.imp id fun hw=>I5 _ hp hw)) (ih hp)
 | new ho hc hw nv t cs hx _ ih=>
  intro Ln j c hp;exact .new ho hc hw nv t cs hx fun g=>ih g ((hp.cons _).trans (.swap _ _ _))
 | rel ho hc hw C hx _ ih=>
  intro Ln j c hp;exact .rel ho hc hw C (fun a w hs hw=>hx a w hs (I5 _ hp hw)) fun v L' hC=>ih v L' hC ((hp.append_left _).trans A2V)
 | relc C ho hc hne hw hx _ ih=>
  intro Ln j c hp;exact .relc C ho hc hne hw (fun a w hs hw=>hx a w hs (I5 _ hp hw)) fun v L' hC=>ih v L' hC ((hp.append_left _).trans A2V)
 | gen ho hc hw C hx hl hr _=>
  intro Ln j c hp;exact .gen ho hc hw C (fun a w hs hw=>hx a w hs (hw.perm (pm hp))) hl hr
 | stl L' ho hc hw hx hl hr _=>
  intro Ln j c hp;exact .stl L' ho hc hw (fun a w F hs hw=>hx a w F hs (hw.perm ((pm hp).append_right F))) hl hr
def clOk:Qy->Qy->Bool
 | .g,.q=>true
 | .g,_=>false
 | .q,.g=>true
 | _,.g=>false
 | .s,.q=>true
 | .s,.n=>true
 | .s,_=>false
 | .q,.s=>true
 | _,.s=>false
 | .n,.r=>false
 | .r,.r=>false
 | .c _,.r=>false
 | _,_=>true
theorem Yd.no{o:Oper}{v:Value}{a:Act}{w:World}{C:Value->List Chunk->Prop}(h:Yd P ops o v a w)(hw:Region.wanted o (yielded ops a.tmps)=true)
 (hr:B1 P (execOp a.eval o) w (fun v w'=>∃L',C v L'/\AR w [] w' L'))(hne:∀v L',C v L'->AY L'≠[]):False:=by
 rcases h with⟨_,h2⟩|⟨h1,_⟩
 .unfold B1 at hr;rw[h2] at hr;obtain⟨L',hC,hO⟩:=hr;have h3:=hne _ _ hC;obtain⟨k,hk⟩:=A2i _ h3;have h4:=hO.lt k hk;rcases hO.fresh k hk with h5|h5
  .cases h5
  omega
 rw[h1] at hw;cases hw
theorem Df{w:World}{Ls:List Chunk}{Ln:List (Nat×Chunk)}(i:Nat)(h:AR w0 K w (Ln.map (·.2)++Ls)):AR w0 K w (HN A i Ln++Ls):=
 h.sub ((A0v A i Ln).append_right _)
theorem BF.swap{x y:Nat}{r:List Nat}{E:Env}{Ls:List Chunk}{Ln:List (Nat×Chunk)}{ox oy:Oper}(hox:ops[x]? =some ox)(hoy:ops[y]? =some oy)
 (hsx:∀cs b,ox.op≠.select cs b)(hsy:∀cs b,oy.op≠.select cs b)
 (hap:ox.apart ops oy=true)(hcl:clOk (cl.getD x .q) (cl.getD y .q)=true)(hAy:(A.getD y 0).testBit x=false)(hAx:(A.getD x 0).testBit y=false)
 (h:BF P ops w0 K n ds Lf cl A Q (x::y::r) E Ls Ln):BF P ops w0 K n ds Lf cl A Q (y::x::r) E Ls Ln:=by
 by_cases hex:∃a w,DM n ds E a/\AR w0 K w (Ln.map (·.2)++Ls)/\AR w0 K w Lf
 case neg=>exact .void fun a w hs hw hf=>hex ⟨a,w,hs,hw,hf⟩
 obtain⟨a,w,ha,hown,hlf⟩:=hex
 -- nothing can be at a state behind both that nothing can be at behind x
 have gone:∀{u v:Value} {Ls':List Chunk} {Ln1 Ln2:List (Nat×Chunk)},(∀a w,DM n ds (E.put ox.dst u) a->AR w0 K w (Ln1.map (·.2)++Ls')->AR w0 K w Lf->False)->
   ((Ln1.map (·.2)++Ls').Sublist (Ln2.map (·.2)++Ls'))->BF P ops w0 K n ds Lf cl A Q r ((E.put ox.dst u).put oy.dst v) Ls' Ln2:=fun hv hs=>
  .void fun a w hsat hw hf=>by
   obtain⟨a0,hs0,rfl⟩:=hsat.unput;exact hv a0 w hs0 (hw.sub hs) hf
 obtain⟨h1,h2,h3⟩:=Oper.apart_spec hap;have hcomm:∀(vx vy:Value) (t:Nat),((E.put oy.dst vy).put ox.dst vx).get t=((E.put ox.dst vx).put oy.dst vy).get t:=fun vx vy t=>
  (Ql E ox.dst oy.dst vx vy h2 t).symm
 -- y at E, out of what is known of it behind x
 have exy:∀(b:Act) (u:Value),execOp (b.put ox.dst u).eval oy=execOp b.eval oy:=fun b u=>execOp_put oy hsy b ox.dst u h1;have exx:∀(b:Act) (u:Value),execOp (b.put oy.dst u).eval ox=execOp b.eval ox:=fun b u=>execOp_put ox hsx b oy.dst u h3;have wxy:∀(b:Act) (u:Value),Region.wanted oy (yielded ops (b.put ox.dst u).tmps)=Region.wanted oy (yielded ops b.tmps):=fun b u=>wanted_put oy b ox.dst u h1;have wxx:∀(b:Act) (u:Value),Region.wanted ox (yielded ops (b.put oy.dst u).tmps)=Region.wanted ox (yielded ops b.tmps):=fun b u=>wanted_put ox b oy.dst u h3;have ydy:∀(b:Act) (u v:Value) (w:World),Yd P ops oy v (b.put ox.dst u) w->Yd P ops oy v b w:=fun b u v w=>(Yd.put hsy h1).1;have ydx:∀(b:Act) (u v:Value) (w:World),Yd P ops ox v b w->Yd P ops ox v (b.put oy.dst u) w:=fun b u v w=>(Yd.put hsx h3).2
 -- x behind y
 have xval:∀{mlx:Bool} {vx:Value} {u:Value} {Ls':List Chunk} {Ln0 Ln':List (Nat×Chunk)},(∀a w,DM n ds E a->AR w0 K w Lf->(mlx=true\/AR w0 K w (HN A x Ln0++Ls))->Yd P ops ox vx a w)->
   (mlx=true\/(Ls'=Ls/\HN A x Ln'=HN A x Ln0))->∀a w,DM n ds (E.put oy.dst u) a->AR w0 K w Lf->(mlx=true\/AR w0 K w (HN A x Ln'++Ls'))->Yd P ops ox vx a w:=by
  intro mlx vx u Ls' Ln0 Ln' hv hl a w hs hf hw;obtain⟨a0,hs0,rfl⟩:=hs.unput;refine ydx _ _ _ _ (hv a0 w hs0 hf ?_);rcases hl with hl|⟨rfl,hl⟩
  .exact .inl hl
  rw[hl] at hw;exact hw
 have xw:∀{u:Value},(∀a,DM n ds E a->Region.wanted ox (yielded ops a.tmps)=true)->∀a,DM n ds (E.put oy.dst u) a->Region.wanted ox (yielded ops a.tmps)=true:=by
  intro u hw a hs;obtain⟨a0,hs0,rfl⟩:=hs.unput;rw[wxx];exact hw a0 hs0
 have xr:∀(Cx:Value->List Chunk->Prop) (hnr:cl.getD y .q= .r->False) (hng:cl.getD y .q= .g->False) (hns:cl.getD y .q= .s->False) (hwx:∀a,DM n ds E a->Region.wanted ox (yielded ops a.tmps)=true)
   (hxx:∀a w,DM n ds E a->AR w0 K w (HN A x Ln++Ls)->B1 P (execOp a.eval ox) w (fun v w'=>∃L',Cx v L'/\AR w [] w' L'))
   (hy:∀v L',Cx v L'->BF P ops w0 K n ds Lf cl A Q (y::r) (E.put ox.dst v) Ls (L'.map (fun c=>(x,c))++Ln))
   (mk:∀{E':Env} {Ls':List Chunk} {Ln':List (Nat×Chunk)} {r':List Nat},(∀a,DM n ds E' a->Region.wanted ox (yielded ops a.tmps)=true)->
    (∀a w,DM n ds E' a->AR w0 K w (HN A x Ln'++Ls')->B1 P (execOp a.eval ox) w (fun v w'=>∃L',Cx v L'/\AR w [] w' L'))->
    (∀v L',Cx v L'->BF P ops w0 K n ds Lf cl A Q r' (E'.put ox.dst v) Ls' (L'.map (fun c=>(x,c))++Ln'))->BF P ops w0 K n ds Lf cl A Q (x::r') E' Ls' Ln'),
   BF P ops w0 K n ds Lf cl A Q (y::x::r) E Ls Ln:=by
  intro Cx hnr hng hns hwx hxx hy mk;obtain⟨v0,w0',L0,hC0,hO0⟩:=(hxx a w ha (Df x hown)).some;have xrel:∀{u:Value} {Ln':List (Nat×Chunk)},HN A x Ln'=HN A x Ln->∀a w,DM n ds (E.put oy.dst u) a->AR w0 K w (HN A x Ln'++Ls)->
    B1 P (execOp a.eval ox) w (fun v w'=>∃L',Cx v L'/\AR w [] w' L'):=by
   intro u Ln' hl a w hs ho;obtain⟨a0,hs0,rfl⟩:=hs.unput;rw[exx];rw[hl] at ho;exact hxx a0 w hs0 ho
  have hy0:=hy v0 L0 hC0;cases hy0 with
  | void hd=>exact(hd _ _ (ha.put _ _) (by have:=hown.add hO0;simpa [Function.comp_def] using this) ((hlf.add hO0).sub (A2M _ _))).elim
  | val mly0 hoy' hmy0 hvy0 hr0=>
   rename_i oy' vy0;rw[hoy] at hoy';cases hoy';have hvis:∀L:List Chunk,HN A y (L.map (fun c=>(x,c))++Ln)=HN A y Ln:=fun L=>Eu _ hAy;have u0:Yd P ops oy vy0 a w:=ydy a v0 vy0 w (hvy0 _ w (ha.put _ _) hlf (.inr (by rw[hvis];exact Df y hown)));refine .val mly0 hoy hmy0 (fun a w hs hf hw=>ydy a v0 vy0 w (hvy0 _ w (hs.put _ _) hf (by rw[hvis];exact hw))) ?_;refine mk (xw hwx) (xrel rfl) fun v L' hC=>?_;have hyg:=hy v L' hC;cases hyg with
   | void hd=>exact(gone hd (.refl _)).congr (hcomm _ _) (.refl _)
   | val mly hoy' hmy hvy hr=>
    rename_i oy' vy;rw[hoy] at hoy';cases hoy';have ug:Yd P ops oy vy a w:=ydy a v vy w (hvy _ w (ha.put _ _) hlf (.inr (by rw[hvis];exact Df y hown)));obtain rfl:=ug.unique u0;exact hr.congr (hcomm _ _) (.refl _)
   | new hoy' hc hw nv t cs hx hr=>
    rw[hoy] at hoy';cases hoy';exfalso;have k1:=hw _ (ha.put ox.dst v);have k2:=hx _ w (ha.put ox.dst v);rw[wxy] at k1;rw[exy] at k2;rcases u0 with⟨_,u2⟩|⟨u1,_⟩
    .rw[k2] at u2;have:=congrArg (fun r:Result Next=>match r with| .ok _ w=>w.heap.size| .halt _ _=>0) u2;simp at this
    rw[u1] at k1;cases k1
   | rel hoy' hc hw C hx hr=>exact(hnr hc).elim
   | relc C hoy' hc hne hw hx hr=>
    rw[hoy] at hoy';cases hoy';exfalso;have k1:=hw _ (ha.put ox.dst v);have k2:=hx _ w (ha.put ox.dst v) (by rw[hvis];exact Df y hown);rw[wxy] at k1;rw[exy] at k2;exact u0.no k1 k2 hne
   | gen hoy' hc hw C hx hl hr=>exact(hng hc).elim
   | stl L1 hoy' hc hw hx hl hr=>exact(hns hc).elim
  | new hoy' hc hw0 nv0 t0 cs0 hx0 hr0=>
   rw[hoy] at hoy';cases hoy';have k0:=hx0 _ w (ha.put ox.dst v0);rw[exy] at k0;refine .new hoy hc (fun a hs=>by rw[<-wxy a v0];exact hw0 _ (hs.put _ _)) nv0 t0 cs0 (fun a w hs=>by rw[<-exy a v0];exact hx0 _ w (hs.put _ _)) fun gy=>?_;refine mk (xw hwx) (xrel (Ey _ hAx)) fun v L' hC=>?_;have hyg:=hy v L' hC;cases hyg with
   | void hd=>exact(gone hd (Ln2:=(y,AC gy t0 cs0)::(L'.map (fun c=>(x,c))++Ln)) (by simp)).congr (hcomm _ _) (A2V)
   | val mly hoy' hmy hvy hr=>
    rename_i oy' vy;rw[hoy] at hoy';cases hoy';exfalso;have ug:Yd P ops oy vy a w:=ydy a v vy w (hvy _ w (ha.put _ _) hlf (.inr (by rw[Eu _ hAy];exact Df y hown)));have k1:=hw0 _ (ha.put ox.dst v0);rw[wxy] at k1;rcases ug with⟨_,u2⟩|⟨u1,_⟩
    .rw[k0] at u2;have:=congrArg (fun r:Result Next=>match r with| .ok _ w=>w.heap.size| .halt _ _=>0) u2;simp at this
    rw[u1] at k1;cases k1
   | new hoy' hc' hw nv t cs hx hr=>
    rw[hoy] at hoy';cases hoy';have k2:=hx _ w (ha.put ox.dst v);rw[exy,k0] at k2;injection k2 with k3 k4;injection k3 with k5;have e1:=Kf k5;have e2:Obj.cells cs0 t0=Obj.cells cs t:=by
     have h5:w.heap.push (Obj.cells cs0 t0)=w.heap.push (Obj.cells cs t):=congrArg World.heap k4;exact(Array.push_eq_push.1 h5).1
    injection e2 with e3 e4;subst e1 e3 e4;exact(hr gy).congr (hcomm _ _) (A2V)
   | rel hoy' hc' hw C hx hr=>rw[hc] at hc';cases hc'
   | relc C hoy' hc' hne hw hx hr=>rw[hc] at hc';cases hc'
   | gen hoy' hc' hw C hx hl hr=>rw[hc] at hc';cases hc'
   | stl L1 hoy' hc' hw hx hl hr=>rw[hc] at hc';cases hc'
  | rel hoy' hc hw C hx hr=>exact(hnr hc).elim
  | relc C0 hoy' hc hne hw0 hx0 hr0=>
   rw[hoy] at hoy';cases hoy';have k1:=hw0 _ (ha.put ox.dst v0);have k2:=hx0 _ w (ha.put ox.dst v0) (by rw[Eu _ hAy];exact Df y hown);rw[wxy] at k1;rw[exy] at k2;refine .relc C0 hoy hc hne (fun a hs=>by rw[<-wxy a v0];exact hw0 _ (hs.put _ _)) (fun a w hs ho=>by rw[<-exy a v0];exact hx0 _ w (hs.put _ _) (by rw[Eu _ hAy];exact ho)) fun v L' hC=>?_;refine mk (xw hwx) (xrel (Eu _ hAx)) fun vx Lx hCx=>?_;have hyg:=hy vx Lx hCx;have hpm:(Lx.map (fun c=>(x,c))++(L'.map (fun c=>(y,c))++Ln)).Perm (L'.map (fun c=>(y,c))++(Lx.map (fun c=>(x,c))++Ln)):=by
    rw[<-A1L,<-A1L];exact A1v.append_right _
   cases hyg with
   | void hd=>exact(gone hd (Ln2:=L'.map (fun c=>(y,c))++(Lx.map (fun c=>(x,c))++Ln)) (by rw[A1Y (l₁:=L'.map _)];exact(A2M _ _).append_right _)).congr (hcomm _ _) hpm
   | val mly hoy' hmy hvy hr=>
    rename_i oy' vy;rw[hoy] at hoy';cases hoy';exfalso;have ug:Yd P ops oy vy a w:=ydy a vx vy w (hvy _ w (ha.put _ _) hlf (.inr (by rw[Eu _ hAy];exact Df y hown)));exact ug.no k1 k2 hne
   | new hoy' hc' hw nv t cs hx hr=>rw[hc] at hc';cases hc'
   | rel hoy' hc' hw C hx hr=>rw[hc] at hc';cases hc'
   | relc C hoy' hc' hne' hw hx hr=>
    rw[hoy] at hoy';cases hoy';rw[hc] at hc';cases hc';exact(hr v L' hC).congr (hcomm _ _) hpm
   | gen hoy' hc' hw C hx hl hr=>rw[hc] at hc';cases hc'
   | stl L1 hoy' hc' hw hx hl hr=>rw[hc] at hc';cases hc'
  | gen hoy' hc hw C hx hl hr=>exact(hng hc).elim
  | stl L1 hoy' hc hw hx hl hr=>exact(hns hc).elim
 cases h with
 | void hd=>exact(hd a w ha hown hlf).elim
 | val mlx hox' hmx hvx hy=>
  rename_i ox' vx;rw[hox] at hox';cases hox';cases hy with
  | void hd=>exact(hd _ w (ha.put _ _) hown hlf).elim
  | val mly hoy' hmy hvy hr=>
   rename_i oy' vy;rw[hoy] at hoy';cases hoy';exact .val mly hoy hmy (fun a w hs hf hw=>ydy a vx vy w (hvy _ w (hs.put _ _) hf hw)) (.val mlx hox hmx (xval hvx (.inr ⟨rfl,rfl⟩)) (hr.congr (hcomm _ _) (.refl _)))
  | new hoy' hc hw nv t cs hx hr=>
   rw[hoy] at hoy';cases hoy';refine .new hoy hc (fun a hs=>by rw[<-wxy a vx];exact hw _ (hs.put _ _)) nv t cs (fun a w hs=>by rw[<-exy a vx];exact hx _ w (hs.put _ _)) fun g=>?_;exact .val mlx hox hmx (xval hvx (.inr ⟨rfl,Ey _ hAx⟩)) ((hr g).congr (hcomm _ _) (.refl _))
  | rel hoy' hc hw C hx hr=>
   rw[hoy] at hoy';cases hoy';refine .rel hoy hc (fun a hs=>by rw[<-wxy a vx];exact hw _ (hs.put _ _)) C (fun a w hs ho=>by rw[<-exy a vx];exact hx _ w (hs.put _ _) ho) fun v L' hC=>?_;exact .val mlx hox hmx (xval hvx (.inr ⟨rfl,Eu _ hAx⟩)) ((hr v L' hC).congr (hcomm _ _) (.refl _))
  | relc C hoy' hc hne hw hx hr=>
   rw[hoy] at hoy';cases hoy';refine .relc C hoy hc hne (fun a hs=>by rw[<-wxy a vx];exact hw _ (hs.put _ _)) (fun a w hs ho=>by rw[<-exy a vx];exact hx _ w (hs.put _ _) ho) fun v L' hC=>?_;exact .val mlx hox hmx (xval hvx (.inr ⟨rfl,Eu _ hAx⟩)) ((hr v L' hC).congr (hcomm _ _) (.refl _))
  | gen hoy' hc hw C hx hl hr=>
   rw[hoy] at hoy';cases hoy';have hml:mlx=true:=hmx.resolve_right fun he=>by rw[he,hc] at hcl;cases hcl
   refine .gen hoy hc (fun a hs=>by rw[<-wxy a vx];exact hw _ (hs.put _ _)) C (fun a w hs ho=>by rw[<-exy a vx];exact hx _ w (hs.put _ _) ho) hl fun v L' hC=>?_;exact .val mlx hox hmx (xval hvx (.inl hml)) ((hr v L' hC).congr (hcomm _ _) (.refl _))
  | stl L1 hoy' hc hw hx hl hr=>
   rw[hoy] at hoy';cases hoy';have hml:mlx=true:=hmx.resolve_right fun he=>by rw[he,hc] at hcl;cases hcl
   refine .stl L1 hoy hc (fun a hs=>by rw[<-wxy a vx];exact hw _ (hs.put _ _)) (fun a w F hs ho=>by rw[<-exy a vx];exact hx _ w F (hs.put _ _) ho) hl ?_;exact .val mlx hox hmx (xval hvx (.inl hml)) (hr.congr (hcomm _ _) (.refl _))
 | new hox' hcx hwx nvx tx csx hxx hy=>
  rw[hox] at hox';cases hox';have xnew:∀{u:Value},∀a w,DM n ds (E.put oy.dst u) a->(execOp a.eval ox).run P w= .ok (.value (nvx.val w.heap.size)) (w.alloc (.cells csx tx)):=by
   intro u a w hs;obtain⟨a0,hs0,rfl⟩:=hs.unput;rw[exx];exact hxx a0 w hs0
  obtain⟨g0,hg0⟩:∃g0,g0=w.heap.size:=⟨_,rfl⟩;have hy0:=hy g0;cases hy0 with
  | void hd=>exact(hd _ _ (ha.put _ _) (by have:=hown.alloc tx csx;rw[<-hg0] at this;simpa using this) ((hlf.alloc tx csx).sub (A1k ..))).elim
  | val mly0 hoy' hmy0 hvy0 hr0=>
   rename_i oy' vy0;rw[hoy] at hoy';cases hoy';have hvis:∀g,HN A y ((x,AC g tx csx)::Ln)=HN A y Ln:=fun g=>Ey _ hAy;have u0:Yd P ops oy vy0 a w:=ydy a (nvx.val g0) vy0 w (hvy0 _ w (ha.put _ _) hlf (.inr (by rw[hvis];exact Df y hown)));refine .val mly0 hoy hmy0 (fun a w hs hf hw=>ydy a (nvx.val g0) vy0 w (hvy0 _ w (hs.put _ _) hf (by rw[hvis];exact hw))) ?_;refine .new hox hcx (xw hwx) nvx tx csx xnew fun g=>?_;have hyg:=hy g;cases hyg with
   | void hd=>exact(gone hd (.refl _)).congr (hcomm _ _) (.refl _)
   | val mly hoy' hmy hvy hr=>
    rename_i oy' vy;rw[hoy] at hoy';cases hoy';have ug:Yd P ops oy vy a w:=ydy a (nvx.val g) vy w (hvy _ w (ha.put _ _) hlf (.inr (by rw[hvis];exact Df y hown)));obtain rfl:=ug.unique u0;exact hr.congr (hcomm _ _) (.refl _)
   | new hoy' hc hw nv t cs hx hr=>
    rw[hoy] at hoy';cases hoy';exfalso;have k1:=hw _ (ha.put ox.dst (nvx.val g));have k2:=hx _ w (ha.put ox.dst (nvx.val g));rw[wxy] at k1;rw[exy] at k2;rcases u0 with⟨_,u2⟩|⟨u1,_⟩
    .rw[k2] at u2;have:=congrArg (fun r:Result Next=>match r with| .ok _ w=>w.heap.size| .halt _ _=>0) u2;simp at this
    rw[u1] at k1;cases k1
   | rel hoy' hc hw C hx hr=>rw[hcx,hc] at hcl;cases hcl
   | relc C hoy' hc hne hw hx hr=>
    rw[hoy] at hoy';cases hoy';exfalso;have k1:=hw _ (ha.put ox.dst (nvx.val g));have k2:=hx _ w (ha.put ox.dst (nvx.val g)) (by rw[hvis];exact Df y hown);rw[wxy] at k1;rw[exy] at k2;exact u0.no k1 k2 hne
   | gen hoy' hc hw C hx hl hr=>rw[hcx,hc] at hcl;cases hcl
   | stl L1 hoy' hc hw hx hl hr=>rw[hcx,hc] at hcl;cases hcl
  | new hoy' hc hw0 nv0 t0 cs0 hx0 hr0=>
   rw[hoy] at hoy';cases hoy';have k0:=hx0 _ w (ha.put ox.dst (nvx.val g0));rw[exy] at k0;refine .new hoy hc (fun a hs=>by rw[<-wxy a (nvx.val g0)];exact hw0 _ (hs.put _ _)) nv0 t0 cs0 (fun a w hs=>by rw[<-exy a (nvx.val g0)];exact hx0 _ w (hs.put _ _)) fun gy=>?_;refine .new hox hcx (xw hwx) nvx tx csx xnew fun g=>?_;have hyg:=hy g;cases hyg with
   | void hd=>exact(gone hd (Ln2:=(y,AC gy t0 cs0)::(x,AC g tx csx)::Ln) (by simp)).congr (hcomm _ _) (.swap _ _ _)
   | val mly hoy' hmy hvy hr=>
    rename_i oy' vy;rw[hoy] at hoy';cases hoy';exfalso;have ug:Yd P ops oy vy a w:=ydy a (nvx.val g) vy w (hvy _ w (ha.put _ _) hlf (.inr (by rw[Ey _ hAy];exact Df y hown)));have k1:=hw0 _ (ha.put ox.dst (nvx.val g0));rw[wxy] at k1;rcases ug with⟨_,u2⟩|⟨u1,_⟩
    .rw[k0] at u2;have:=congrArg (fun r:Result Next=>match r with| .ok _ w=>w.heap.size| .halt _ _=>0) u2;simp at this
    rw[u1] at k1;cases k1
   | new hoy' hc' hw nv t cs hx hr=>
    rw[hoy] at hoy';cases hoy';have k2:=hx _ w (ha.put ox.dst (nvx.val g));rw[exy,k0] at k2;injection k2 with k3 k4;injection k3 with k5;have e1:=Kf k5;have e2:Obj.cells cs0 t0=Obj.cells cs t:=by
     have h5:w.heap.push (Obj.cells cs0 t0)=w.heap.push (Obj.cells cs t):=congrArg World.heap k4;exact(Array.push_eq_push.1 h5).1
    injection e2 with e3 e4;subst e1 e3 e4;exact(hr gy).congr (hcomm _ _) (.swap _ _ _)
   | rel hoy' hc' hw C hx hr=>rw[hc] at hc';cases hc'
   | relc C hoy' hc' hne hw hx hr=>rw[hc] at hc';cases hc'
   | gen hoy' hc' hw C hx hl hr=>rw[hc] at hc';cases hc'
   | stl L1 hoy' hc' hw hx hl hr=>rw[hc] at hc';cases hc'
  | rel hoy' hc hw C hx hr=>rw[hcx,hc] at hcl;cases hcl
  | relc C0 hoy' hc hne hw0 hx0 hr0=>
   rw[hoy] at hoy';cases hoy';have k1:=hw0 _ (ha.put ox.dst (nvx.val g0));have k2:=hx0 _ w (ha.put ox.dst (nvx.val g0)) (by rw[Ey _ hAy];exact Df y hown);rw[wxy] at k1;rw[exy] at k2;refine .relc C0 hoy hc hne (fun a hs=>by rw[<-wxy a (nvx.val g0)];exact hw0 _ (hs.put _ _)) (fun a w hs ho=>by rw[<-exy a (nvx.val g0)];exact hx0 _ w (hs.put _ _) (by rw[Ey _ hAy];exact ho)) fun v L' hC=>?_;refine .new hox hcx (xw hwx) nvx tx csx xnew fun g=>?_;have hyg:=hy g;cases hyg with
   | void hd=>exact(gone hd (Ln2:=L'.map (fun c=>(y,c))++(x,AC g tx csx)::Ln) (by rw[A1Y];exact(A2M _ _).append_right _)).congr (hcomm _ _) A2V.symm
   | val mly hoy' hmy hvy hr=>
    rename_i oy' vy;rw[hoy] at hoy';cases hoy';exfalso;have ug:Yd P ops oy vy a w:=ydy a (nvx.val g) vy w (hvy _ w (ha.put _ _) hlf (.inr (by rw[Ey _ hAy];exact Df y hown)));exact ug.no k1 k2 hne
   | new hoy' hc' hw nv t cs hx hr=>rw[hc] at hc';cases hc'
   | rel hoy' hc' hw C hx hr=>rw[hc] at hc';cases hc'
   | relc C hoy' hc' hne' hw hx hr=>
    rw[hoy] at hoy';cases hoy';rw[hc] at hc';cases hc';exact(hr v L' hC).congr (hcomm _ _) A2V.symm
   | gen hoy' hc' hw C hx hl hr=>rw[hc] at hc';cases hc'
   | stl L1 hoy' hc' hw hx hl hr=>rw[hc] at hc';cases hc'
  | gen hoy' hc hw C hx hl hr=>rw[hcx,hc] at hcl;cases hcl
  | stl L1 hoy' hc hw hx hl hr=>rw[hcx,hc] at hcl;cases hcl
 | rel hox' hcx hwx Cx hxx hy=>
  rw[hox] at hox';cases hox';exact xr Cx (fun h=>by rw[hcx,h] at hcl;cases hcl) (fun h=>by rw[hcx,h] at hcl;cases hcl) (fun h=>by rw[hcx,h] at hcl;cases hcl) hwx hxx hy fun hw hx h=>.rel hox hcx hw Cx hx h
 | relc Cx hox' hcx hnex hwx hxx hy=>
  rw[hox] at hox';cases hox';exact xr Cx (fun h=>by rw[hcx,h] at hcl;cases hcl) (fun h=>by rw[hcx,h] at hcl;cases hcl) (fun h=>by rw[hcx,h] at hcl;cases hcl) hwx hxx hy fun hw hx h=>.relc Cx hox hcx hnex hw hx h
 | gen hox' hcx hwx Cx hxx hlx hy=>
  rw[hox] at hox';cases hox';obtain⟨v0,w0',L0,hC0,hO0⟩:=(hxx a w ha hown).some;have xgen:∀{u:Value},∀a w,DM n ds (E.put oy.dst u) a->AR w0 K w (Ln.map (·.2)++Ls)->
    B1 P (execOp a.eval ox) w (fun v w'=>∃L',Cx v L'/\AR w0 K w' L'):=by
   intro u a w hs ho;obtain⟨a0,hs0,rfl⟩:=hs.unput;rw[exx];exact hxx a0 w hs0 ho
  have hy0:=hy v0 L0 hC0;cases hy0 with
  | void hd=>exact(hd _ _ (ha.put _ _) (by simpa using hO0) (hlx _ _ hC0 _ hO0)).elim
  | val mly0 hoy' hmy0 hvy0 hr0=>
   rename_i oy' vy0;rw[hoy] at hoy';cases hoy';have hml0:mly0=true:=hmy0.resolve_right fun he=>by rw[he,hcx] at hcl;cases hcl
   have u0:Yd P ops oy vy0 a w:=ydy a v0 vy0 w (hvy0 _ w (ha.put _ _) hlf (.inl hml0));refine .val mly0 hoy hmy0 (fun a w hs hf hw=>ydy a v0 vy0 w (hvy0 _ w (hs.put _ _) hf (.inl hml0))) ?_;refine .gen hox hcx (xw hwx) Cx xgen hlx fun v L' hC=>?_;have hyg:=hy v L' hC;cases hyg with
   | void hd=>exact(gone hd (.refl _)).congr (hcomm _ _) (.refl _)
   | val mly hoy' hmy hvy hr=>
    rename_i oy' vy;rw[hoy] at hoy';cases hoy';have hml:mly=true:=hmy.resolve_right fun he=>by rw[he,hcx] at hcl;cases hcl
    have ug:Yd P ops oy vy a w:=ydy a v vy w (hvy _ w (ha.put _ _) hlf (.inl hml));obtain rfl:=ug.unique u0;exact hr.congr (hcomm _ _) (.refl _)
   | new hoy' hc hw nv t cs hx hr=>rw[hcx,hc] at hcl;cases hcl
   | rel hoy' hc hw C hx hr=>rw[hcx,hc] at hcl;cases hcl
   | relc C hoy' hc hne hw hx hr=>rw[hcx,hc] at hcl;cases hcl
   | gen hoy' hc hw C hx hl hr=>rw[hcx,hc] at hcl;cases hcl
   | stl L1 hoy' hc hw hx hl hr=>rw[hcx,hc] at hcl;cases hcl
  | new hoy' hc hw nv t cs hx hr=>rw[hcx,hc] at hcl;cases hcl
  | rel hoy' hc hw C hx hr=>rw[hcx,hc] at hcl;cases hcl
  | relc C hoy' hc hne hw hx hr=>rw[hcx,hc] at hcl;cases hcl
  | gen hoy' hc hw C hx hl hr=>rw[hcx,hc] at hcl;cases hcl
  | stl L1 hoy' hc hw hx hl hr=>rw[hcx,hc] at hcl;cases hcl
 | stl Lx hox' hcx hwx hxx hlx hy=>
  rw[hox] at hox';cases hox';obtain⟨v0,w0',hv0,hO0⟩:=(hxx a w [] ha (by simpa using hown)).some;have xsto:∀{u:Value},∀a w F,DM n ds (E.put oy.dst u) a->AR w0 K w (Ln.map (·.2)++Ls++F)->
    B1 P (execOp a.eval ox) w (fun v w'=>v=undef/\AR w0 K w' (Lx++F)):=by
   intro u a w F hs ho;obtain⟨a0,hs0,rfl⟩:=hs.unput;rw[exx];exact hxx a0 w F hs0 ho
  cases hy with
  | void hd=>exact(hd _ w0' (ha.put _ _) (by simpa using hO0) (hlx _ (by simpa using hO0))).elim
  | val mly hoy' hmy hvy hr=>
   rename_i oy' vy;rw[hoy] at hoy';cases hoy';have hml:mly=true:=hmy.resolve_right fun he=>by rw[he,hcx] at hcl;cases hcl
   refine .val mly hoy hmy (fun a w hs hf hw=>ydy a undef vy w (hvy _ w (hs.put _ _) hf (.inl hml))) ?_;exact .stl Lx hox hcx (xw hwx) xsto hlx (hr.congr (hcomm _ _) (.refl _))
  | new hoy' hc hw nv t cs hx hr=>
   rw[hoy] at hoy';cases hoy';refine .new hoy hc (fun a hs=>by rw[<-wxy a undef];exact hw _ (hs.put _ _)) nv t cs (fun a w hs=>by rw[<-exy a undef];exact hx _ w (hs.put _ _)) fun g=>?_;refine .stl (AC g t cs::Lx) hox hcx (xw hwx) (fun a w F hs ho=>?_) (fun w ho=>hlx w (ho.sub (A1k ..))) (((hr g).settle (.refl _)).congr (hcomm _ _) (.refl _));refine(xsto a w (AC g t cs::F) hs (ho.perm ?_)).mono ?_
   .simp only[A1M,A1K];exact A2V
   rintro v w' ⟨rfl,hO⟩;exact⟨rfl,hO.perm A2V.symm⟩
  | rel hoy' hc hw C hx hr=>rw[hcx,hc] at hcl;cases hcl
  | relc C hoy' hc hne hw hx hr=>rw[hcx,hc] at hcl;cases hcl
  | gen hoy' hc hw C hx hl hr=>rw[hcx,hc] at hcl;cases hcl
  | stl L1 hoy' hc hw hx hl hr=>rw[hcx,hc] at hcl;cases hcl
end
end
section
variable[Lo]
def K0(o:Oper):List Nat:=(o.after.toList.filter (Region.binds .any)).map (·.on)
def H1(ops:Array Oper)(cl:List Qy)(A:List Nat)(x y:Nat):Bool:=
 match ops[x]?,ops[y]? with
 | some ox,some oy=>x !=y&& !(K0 ox).contains y&&((A.getD y 0).testBit x||(ox.apart ops oy&&clOk (cl.getD x .q) (cl.getD y .q)&& !(A.getD x 0).testBit y))
 | _,_=>false
def Dt(ops:Array Oper)(cl:List Qy)(A:List Nat):List Nat->Bool
 | []=>true
 | x::r=>r.all (H1 ops cl A x)&&Dt ops cl A r
def Hf(ops:Array Oper)(x:Nat):Bool:=
 match ops[x]? with
 | some o=>(K0 o).all fun m=>Nat.blt m ops.size&&m !=x
 | none=>false
def Lq(ops:Array Oper)(A:List Nat)(d:Nat):Bool:=
 match ops[d]? with
 | some o=>(List.range ops.size).all fun i=> !(A.getD d 0).testBit i||(K0 o).any fun m=>m==i||(A.getD m 0).testBit i
 | none=>false
def Hl(ops:Array Oper)(cl:List Qy)(A order:List Nat):Bool:=
 Region.noSelect ops&&(List.range ops.size).all (order.contains ·)&&order.all (Hf ops)&&Dt ops cl A order&&(List.range ops.size).all (Lq ops A)
section
variable{P:Program}{ops:Array Oper}{w0:World}{K:List Nat}{n:Nat}{ds:List Deferred}{Lf:List Chunk}{cl:List Qy}{A:List Nat}{Q:Act->World->Prop}
theorem BF.under{l l':List Nat}{y:Nat}(hl:∀E Ls Ln,BF P ops w0 K n ds Lf cl A Q l E Ls Ln->BF P ops w0 K n ds Lf cl A Q l' E Ls Ln)
 {E:Env}{Ls:List Chunk}{Ln:List (Nat×Chunk)}(h:BF P ops w0 K n ds Lf cl A Q (y::l) E Ls Ln):BF P ops w0 K n ds Lf cl A Q (y::l') E Ls Ln:=by
 cases h with
 | void hd=>exact .void hd
 | val ml ho hm hv hr=>exact .val ml ho hm hv (hl _ _ _ hr)
 | new ho hc hw nv t cs hx hr=>exact .new ho hc hw nv t cs hx fun g=>hl _ _ _ (hr g)
 | rel ho hc hw C hx hr=>exact .rel ho hc hw C hx fun v L' hC=>hl _ _ _ (hr v L' hC)
 | relc C ho hc hne hw hx hr=>exact .relc C ho hc hne hw hx fun v L' hC=>hl _ _ _ (hr v L' hC)
 | gen ho hc hw C hx hl' hr=>exact .gen ho hc hw C hx hl' fun v L' hC=>hl _ _ _ (hr v L' hC)
 | stl L1 ho hc hw hx hl' hr=>exact .stl L1 ho hc hw hx hl' (hl _ _ _ hr)
theorem Ng{i:Nat}{c2:List Nat}(hns:Region.noSelect ops=true):∀{c1:List Nat},(∀y,y∈c1->H1 ops cl A y i=true/\(A.getD i 0).testBit y=false)->
  ∀{E Ls Ln},BF P ops w0 K n ds Lf cl A Q (c1++i::c2) E Ls Ln->BF P ops w0 K n ds Lf cl A Q (i::(c1++c2)) E Ls Ln
 | [],_,_,_,_,h=>h
 | y::c1,hp,E,Ls,Ln,h=>by
  have h1:BF P ops w0 K n ds Lf cl A Q (y::(i::(c1++c2))) E Ls Ln:=BF.under (fun E Ls Ln hh=>Ng hns (fun z hz=>hp z (A1q _ hz)) hh) h;obtain⟨h2,h3⟩:=hp y (A1m ..);unfold H1 at h2;split at h2
  .rename_i ox oy hox hoy;simp only[A1P,Bool.or_eq_true,A3c,bne_iff_ne,ne_eq] at h2;obtain⟨_,h4⟩:=h2;rcases h4 with h4|⟨⟨h4,h5⟩,h6⟩
   .rw[h4] at h3;cases h3
   exact BF.swap hox hoy (fun cs b=>Region.noSelect_spec hns y ox cs b hox) (fun cs b=>Region.noSelect_spec hns i oy cs b hoy) h4 h5 h3 h6 h1
  cases h2
theorem Nx{c1 c2:List Nat}{i:Nat}(h:Dt ops cl A (c1++i::c2)=true):(∀y,y∈c1->H1 ops cl A y i=true)/\Dt ops cl A (c1++c2)=true:=by
 induction c1 with
 | nil=>simp[Dt] at h ⊢;exact h.2
 | cons y c1 ih=>
  simp only[A1K,Dt,A1P] at h ⊢;obtain⟨h1,h2⟩:=h;have:=ih h2;rw[List.all_append,A1P] at h1;simp only[List.all_cons,A1P] at h1;refine⟨fun z hz=>?_,?_,this.2⟩
  .rcases A1H.1 hz with rfl|hz
   .exact h1.2.1
   exact this.1 z hz
  rw[List.all_append,A1P];exact⟨h1.1,h1.2.2⟩
theorem Pp{c:List Nat}{x:Nat}{ox:Oper}(hox:ops[x]? =some ox)(h:Dt ops cl A (x::c)=true):∀y,y∈c->y∉K0 ox:=by
 intro y hy;simp only[Dt,A1P,A2c] at h;have:=h.1 y hy;unfold H1 at this;rw[hox] at this;split at this
 .rename_i a b ha hb;cases ha;simp only[A1P,A3c] at this;have h3:=this.1.2;intro hm;rw[List.contains_iff_mem.2 hm] at h3;cases h3
 cases this
theorem Ol{o:Oper}{m:Nat}:m∈K0 o↔∃e∈o.after,Region.binds .any e=true/\e.on=m:=by
 simp[K0,and_assoc]
theorem PQ{listed:Array Bool}{j:Nat}(h:j<listed.size)(hn:¬listed.getD j true=false):listed.getD j false=true:=by
 simp[h] at hn ⊢;exact hn
theorem R6{Qx:Exit->Act->World->Prop}(hns:Region.noSelect ops=true)(hA:∀d,d<ops.size->Lq ops A d=true):
  ∀(m:Nat) (c:List Nat) (listed:Array Bool) (E:Env) (Ls:List Chunk) (Ln:List (Nat×Chunk)),c.length=m->BF P ops w0 K n ds Lf cl A (Qx .normal) c E Ls Ln->
   listed.size=ops.size->(∀j,j∈c↔(j<ops.size/\listed.getD j true=false))->Dt ops cl A c=true->(∀x,x∈c->Hf ops x=true)->
   (∀z i,z<ops.size->i<ops.size->listed.getD z true=true->(A.getD z 0).testBit i=true->listed.getD i true=true)->
   ∀a w,DM n ds E a->AR w0 K w (Ln.map (·.2)++Ls)->AR w0 K w Lf->wpAny P .any ops Qx m listed a w:=by
 intro m
 induction m with
 | zero=>
  intro c listed E Ls Ln hl h hsz hc hp hn hcl a w ha hw hlf;have:c=[]:=A1s hl;subst this;refine⟨?_,?_⟩
  .rw[List.eq_nil_iff_forall_not_mem];intro j hj;obtain⟨h1,o,ho,_⟩:=mem_ready.1 hj;have:=(hc j).2 ⟨(A1t.1 ho).1,h1⟩;simp at this
  cases h with
  | void hd=>exact(hd a w ha hw hlf).elim
  | done hd=>exact hd a w ha hw
 | succ m ih=>
  intro c listed E Ls Ln hl h hsz hc hp hn hcl a w ha hw hlf;refine⟨fun hr=>?_,fun i hi=>?_⟩
  .exfalso
   match c,hl with
   | x::r,hl=>
    have hx:=(hc x).1 (A1m ..);obtain⟨o,ho⟩:∃o,ops[x]? =some o:=⟨ops[x]'hx.1,by simp[hx.1]⟩;have:x∈Region.ready .any ops listed:=by
     rw[mem_ready];refine⟨hx.2,o,ho,fun e he hb=>?_⟩;have hm:e.on∈K0 o:=Ol.2 ⟨e,he,hb,rfl⟩;have hno:=hn x (A1m ..);unfold Hf at hno;rw[ho] at hno;simp only[A2c,A1P,bne_iff_ne,ne_eq,Nat.blt_eq] at hno;obtain⟨hlt,hne⟩:=hno _ hm;refine PQ (by rw[hsz];exact hlt) fun hf=>?_;have hmem:=(hc e.on).2 ⟨hlt,hf⟩;rcases A1H.1 hmem with h1|h1
     .exact hne h1
     exact Pp ho hp _ h1 hm
    rw[hr] at this;cases this
  obtain⟨hli,o,ho,hall⟩:=mem_ready.1 hi;have hlt:i<ops.size:=(A1t.1 ho).1;have hic:=(hc i).2 ⟨hlt,hli⟩;obtain⟨c1,c2,rfl⟩:=A3q hic;obtain⟨hp1,hp2⟩:=Nx hp
  -- what stands ahead of i in the list is none of its elders
  have hbits:∀y,y<ops.size->(A.getD i 0).testBit y=true->listed.getD y true=true:=by
   intro y hy hb;have hs:=hA i hlt;unfold Lq at hs;rw[ho] at hs;simp only[A2c,A1r,Bool.or_eq_true,A3c,List.any_eq_true,beq_iff_eq] at hs;rcases hs y hy with h1|⟨k,hk,h1⟩
   .rw[h1] at hb;cases hb
   obtain⟨e,he,hbe,rfl⟩:=Ol.1 hk;have hle:=hall e he hbe;have hle':e.on<ops.size:=by
    rcases Nat.lt_or_ge e.on listed.size with h2|h2
    .rw[hsz] at h2;exact h2
    simp[Array.getElem?_eq_none h2] at hle
   have hlt2:listed.getD e.on true=true:=by
    have:e.on<listed.size:=by rw[hsz];exact hle'
    simp[this] at hle ⊢;exact hle
   rcases h1 with h1|h1
   .rw[<-h1];exact hlt2
   exact hcl e.on y hle' hy hlt2 h1
  have hfront:=Ng hns (c1:=c1) (c2:=c2) (i:=i) (fun y hy=>⟨hp1 y hy,by
   have hyc:=(hc y).1 (A2w _ hy);rw[Bool.eq_false_iff];intro hb;have:=hbits y hyc.1 hb;rw[hyc.2] at this;cases this⟩) h;have hlen:(c1++c2).length=m:=by simp at hl ⊢;omega
  have hnd:i∉c1++c2:=by
   intro hm;have hself:∀y,y∈c1++c2->y≠i:=by
    intro y hy;rcases A1C.1 hy with h1|h1
    .have:=hp1 y h1;unfold H1 at this;split at this
     .simp only[A1P,bne_iff_ne] at this;exact this.1.1
     cases this
    have:∀l1,Dt ops cl A (l1++i::c2)=true->i≠y:=by
     intro l1
     induction l1 with
     | nil=>
      intro hh;simp only[A1N,Dt,A1P,A2c] at hh;have:=hh.1 y h1;unfold H1 at this;split at this
      .simp only[A1P,bne_iff_ne] at this;exact this.1.1
      cases this
     | cons z l1 ih=>intro hh;simp only[A1K,Dt,A1P] at hh;exact ih hh.2
    exact(this c1 hp).symm
   exact hself i hm rfl
  have hsz':(listed.setIfInBounds i true).size=ops.size:=by simpa using hsz
  have hset:∀j,(listed.setIfInBounds i true).getD j true=(if i=j then true else listed.getD j true):=by
   intro j;by_cases hij:i=j
   .subst hij;have:i<listed.size:=by rw[hsz];exact hlt
    simp[this]
   rw[getD_set_ne true hij,if_neg hij]
  have hc':∀j,j∈c1++c2↔(j<ops.size/\(listed.setIfInBounds i true).getD j true=false):=by
   intro j;rw[hset];by_cases hij:i=j
   .subst hij;simp only[if_true];exact⟨fun hm=>(hnd hm).elim,fun hm=>by simp at hm⟩
   rw[if_neg hij,<-hc j];simp[Ne.symm hij]
  have hn':∀x,x∈c1++c2->Hf ops x=true:=fun x hx=>hn x (by
   rcases A1C.1 hx with h1|h1
   .exact A2w _ h1
   exact A2N _ (A1q _ h1));have hcl':∀z k,z<ops.size->k<ops.size->(listed.setIfInBounds i true).getD z true=true->(A.getD z 0).testBit k=true->(listed.setIfInBounds i true).getD k true=true:=by
   intro z k hz hk hlz hb;rw[hset] at hlz ⊢;by_cases hik:i=k
   .rw[if_pos hik]
   rw[if_neg hik];by_cases hiz:i=z
   .subst hiz;exact hbits k hk hb
   rw[if_neg hiz] at hlz;exact hcl z k hz hk hlz hb
  have next:∀{E' Ls' Ln'},BF P ops w0 K n ds Lf cl A (Qx .normal) (c1++c2) E' Ls' Ln'->∀a w,DM n ds E' a->AR w0 K w (Ln'.map (·.2)++Ls')->AR w0 K w Lf->wpAny P .any ops Qx m (listed.setIfInBounds i true) a w:=
   fun hf=>ih (c1++c2) _ _ _ _ hlen hf hsz' hc' hp2 hn' hcl'
  unfold wpOp;rw[ho];simp only;cases hfront with
  | void hd=>exact(hd a w ha hw hlf).elim
  | val ml ho' hm hv hr=>
   rw[ho] at ho';cases ho';rcases hv a w ha hlf (.inr (Df i hw)) with⟨h1,h2⟩|⟨h1,rfl⟩
   .rw[if_pos h1];refine .inl ?_;unfold Oper.wp;rw[h2];exact next hr _ _ (ha.put _ _) hw hlf
   rw[if_neg (by rw[h1];simp)];exact next hr _ _ (ha.put _ _) hw hlf
  | new ho' hc hwt nv t cs hx hr=>
   rw[ho] at ho';cases ho';rw[if_pos (hwt a ha)];refine .inl ?_;unfold Oper.wp;rw[hx a w ha];exact next (hr _) _ _ (ha.put _ _) (by have:=hw.alloc t cs;simpa using this) ((hlf.alloc t cs).sub (A1k ..))
  | rel ho' hc hwt C hx hr=>
   rw[ho] at ho';cases ho';rw[if_pos (hwt a ha)];refine .inl ((hx a w ha (Df i hw)).wp ?_);rintro v w' ⟨L',hC,hO⟩;exact next (hr v L' hC) _ _ (ha.put _ _) (by have:=hw.add hO;simpa [Function.comp_def] using this) ((hlf.add hO).sub (A2M _ _))
  | relc C ho' hc hne hwt hx hr=>
   rw[ho] at ho';cases ho';rw[if_pos (hwt a ha)];refine .inl ((hx a w ha (Df i hw)).wp ?_);rintro v w' ⟨L',hC,hO⟩;exact next (hr v L' hC) _ _ (ha.put _ _) (by have:=hw.add hO;simpa [Function.comp_def] using this) ((hlf.add hO).sub (A2M _ _))
  | gen ho' hc hwt C hx hl' hr=>
   rw[ho] at ho';cases ho';rw[if_pos (hwt a ha)];refine .inl ((hx a w ha hw).wp ?_);rintro v w' ⟨L',hC,hO⟩;exact next (hr v L' hC) _ _ (ha.put _ _) (by simpa using hO) (hl' v L' hC _ hO)
  | stl L1 ho' hc hwt hx hl' hr=>
   rw[ho] at ho';cases ho';rw[if_pos (hwt a ha)];refine .inl ((hx a w [] ha (by simpa using hw)).wp ?_);rintro v w' ⟨rfl,hO⟩;exact next hr _ _ (ha.put _ _) (by simpa using hO) (hl' _ (by simpa using hO))
theorem JT{order:List Nat}(h:Hl ops cl A order=true):Region.noSelect ops=true/\(∀j,j<ops.size->j∈order)/\(∀x,x∈order->Hf ops x=true)/\
  Dt ops cl A order=true/\(∀d,d<ops.size->Lq ops A d=true):=by
 simp only[Hl,A1P,A2c,A1r] at h;obtain⟨⟨⟨⟨h1,h2⟩,h3⟩,h4⟩,h5⟩:=h;exact⟨h1,fun j hj=>List.contains_iff_mem.1 (h2 j hj),h3,h4,h5⟩
theorem IS{c:List Nat}(h:Dt ops cl A c=true):c.Nodup:=by
 induction c with
 | nil=>simp
 | cons x r ih=>
  simp only[Dt,A1P,A2c] at h;refine A1Z.2 ⟨fun hm=>?_,ih h.2⟩;have:=h.1 x hm;unfold H1 at this;split at this
  .simp at this
  cases this
theorem IT{c:List Nat}{m:Nat}(hn:c.Nodup)(h:∀j,j∈c↔j<m):c.length=m:=by
 have h1:c.Perm (List.range m):=by
  rw[A3F hn A2f];intro a;rw[h a,A1r]
 rw[h1.length_eq,A2m]
theorem LT{Qx:Exit->Act->World->Prop}{id:Nat}{order:List Nat}(hm:P.follows .mixedOrders=true)(hchk:Hl ops cl A order=true)
 {E:Env}{L:List Chunk}(hLf:∀w,AR w0 K w L->AR w0 K w Lf)(h:BF P ops w0 K n ds Lf cl A (Qx .normal) order E L []):∀a w,DM n ds E a->AR w0 K w L->(Code.region id ops true).wp P Qx a w:=by
 intro a w ha hw;obtain⟨h1,h2,h3,h4,h5⟩:=JT hchk;have hlt:∀x,x∈order->x<ops.size:=fun x hx=>by
  have:=h3 x hx;unfold Hf at this;split at this
  .rename_i o ho;exact(A1t.1 ho).1
  cases this
 refine wp_region_any hm ?_;have hlen:=IT (IS h4) (fun j=>⟨hlt j,h2 j⟩);rw[<-hlen];rw[hlen];refine R6 h1 h5 ops.size order (Array.replicate ops.size false) E L [] hlen h (by simp) (fun j=>⟨fun hj=>⟨hlt j hj,by simp[hlt j hj]⟩,fun hj=>h2 j hj.1⟩) h4 h3 ?_ a _ ha (by simpa using hw.drew) ((hLf w hw).drew);intro z i hz hi hl;simp[hz] at hl
end
end
section
variable[Lo]
/-! ### what an operation's guard says -/
def want(n:Nat)(E:Env)(ops:Array Oper)(o:Oper):Option Bool:=
 match o.guard with
 | none=>some true
 | some (j,b)=>
  match (ops[j]?).bind (·.dst) with
  | none=>some false
  | some d=>
   match ev n E (.tmp d) with
   | some (.bool c)=>some (c==b)
   | some (.tuple _)=>some false
   | _=>none
section
variable{P:Program}{ops:Array Oper}{w0:World}{K:List Nat}{n:Nat}{ds:List Deferred}{E:Env}{L:List Chunk}
theorem BV{o:Oper}{b:Bool}{a:Act}(h:want n E ops o=some b)(ha:DM n ds E a):Region.wanted o (yielded ops a.tmps)=b:=by
 unfold want at h;unfold Region.wanted;split at h
 .rename_i hg;cases h;rw[hg]
 rename_i j c hg;rw[hg];simp only;unfold yielded;split at h
 .rename_i hd;rw[hd];cases h;rfl
 rename_i d hd;rw[hd];simp only[Option.bind_some];have key:∀v,ev n E (.tmp d)=some v->a.tmps[d]? =some v:=by
  intro v hv;replace hv:(bif Nat.blt d n then E.get d else none)=some v:=hv;cases hb:Nat.blt d n with
  | false=>rw[hb] at hv;cases hv
  | true=>rw[hb] at hv;exact ha.has d v hv (by rw[Nat.blt_eq] at hb;exact hb)
 split at h
 .rename_i c' hv;rw[key _ hv];cases h;cases c'<;>cases c<;>rfl
 .rename_i t hv;rw[key _ hv];cases h;rfl
 cases h
/-! ### what single operations do -/
def EL(P:Program)(n:Nat)(ds:List Deferred)(E:Env)(o:Oper)(v:Value):Prop:=
 ∀a w,DM n ds E a->(execOp a.eval o).run P w= .ok (.value v) w
def Val(P:Program)(w0:World)(K:List Nat)(n:Nat)(ds:List Deferred)(E:Env)(L:List Chunk)(o:Oper)(v:Value):Prop:=
 ∀a w,DM n ds E a->AR w0 K w L->(execOp a.eval o).run P w= .ok (.value v) w
def New(P:Program)(n:Nat)(ds:List Deferred)(E:Env)(o:Oper)(nv:Uv)(t:Nat)(cs:Array Value):Prop:=
 ∀a w,DM n ds E a->(execOp a.eval o).run P w= .ok (.value (nv.val w.heap.size)) (w.alloc (.cells cs t))
def A0o(P:Program)(w0:World)(K:List Nat)(n:Nat)(ds:List Deferred)(E:Env)(L:List Chunk)(o:Oper)(C:Value->List Chunk->Prop):Prop:=
 ∀a w,DM n ds E a->AR w0 K w L->B1 P (execOp a.eval o) w (fun v w'=>∃L',C v L'/\AR w [] w' L')
def SP(P:Program)(w0:World)(K:List Nat)(n:Nat)(ds:List Deferred)(E:Env)(L:List Chunk)(o:Oper)(C:Value->List Chunk->Prop):Prop:=
 ∀a w,DM n ds E a->AR w0 K w L->B1 P (execOp a.eval o) w (fun v w'=>∃L',C v L'/\AR w0 K w' L')
theorem EL.val{o:Oper}{v:Value}(h:EL P n ds E o v):Val P w0 K n ds E L o v:=fun a w ha _=>h a w ha
/-! ### operations in the text's order -/
def CN(P:Program)(ops:Array Oper)(w0:World)(K:List Nat)(n:Nat)(ds:List Deferred)(Q:Exit->Act->World->Prop)(l:List Oper)(E:Env)(L:List Chunk):Prop:=
 ∀a w,DM n ds E a->AR w0 K w L->wpList P ops Q l a w
def Dl(w0:World)(K:List Nat)(n:Nat)(ds:List Deferred)(Q:Act->World->Prop)(E:Env)(L:List Chunk):Prop:=
 ∀a w,DM n ds E a->AR w0 K w L->Q a w
def DC(P:Program)(w0:World)(K:List Nat)(n:Nat)(ds:List Deferred)(Q:Exit->Act->World->Prop)(c:Code)(E:Env)(L:List Chunk):Prop:=
 ∀a w,DM n ds E a->AR w0 K w L->c.wp P Q a w
variable{Q:Exit->Act->World->Prop}{o:Oper}{r:List Oper}{v:Value}{d:Nat}
theorem Az(h:Dl w0 K n ds (Q .normal) E L):CN P ops w0 K n ds Q [] E L:=h
theorem CN.run{d:Option Tmp}(hd:o.dst=d){R:Value->World->Prop}(hw:want n E ops o=some true)(hx:∀a w,DM n ds E a->AR w0 K w L->B1 P (execOp a.eval o) w R)
 (h:∀a w v w',DM n ds E a->AR w0 K w L->R v w'->wpList P ops Q r (a.put d v) w'):CN P ops w0 K n ds Q (o::r) E L:=by
 intro a w ha hL;unfold wpList;rw[if_pos (BV hw ha)];subst hd;exact .inl ((hx a w ha hL).wp fun v w' hR=>h a w v w' ha hL hR)
theorem CN.val(hd:o.dst=some d)(hw:want n E ops o=some true)(hv:Val P w0 K n ds E L o v)(h:CN P ops w0 K n ds Q r ((d,v)::E) L):CN P ops w0 K n ds Q (o::r) E L:=
 CN.run hd hw (R:=fun v' w'=>v'=v/\∃a0:Unit,AR w0 K w' L) (fun a w ha hL=>B1.value (hv a w ha hL) ⟨rfl,(),hL⟩)
  (fun a w v' w' ha _ hR=>by obtain⟨rfl,_,hL'⟩:=hR;exact h _ _ (ha.put (some d) _) hL')
theorem CN.pur(hd:o.dst=some d)(hw:want n E ops o=some true)(hv:EL P n ds E o v)(h:CN P ops w0 K n ds Q r ((d,v)::E) L):CN P ops w0 K n ds Q (o::r) E L:=
 CN.val hd hw hv.val h
theorem CN.skip(hd:o.dst=some d)(hw:want n E ops o=some false)(h:CN P ops w0 K n ds Q r ((d,undef)::E) L):CN P ops w0 K n ds Q (o::r) E L:=by
 intro a w ha hL;unfold wpList;rw[if_neg (by rw[BV hw ha];simp),hd];exact h _ _ (ha.put (some d) _) hL
theorem CN.skip0(hd:o.dst=none)(hw:want n E ops o=some false)(h:CN P ops w0 K n ds Q r E L):CN P ops w0 K n ds Q (o::r) E L:=by
 intro a w ha hL;unfold wpList;rw[if_neg (by rw[BV hw ha];simp),hd];exact h _ _ ha hL
theorem CN.new(hd:o.dst=some d)(hw:want n E ops o=some true){nv:Uv}{t:Nat}{cs:Array Value}(hx:New P n ds E o nv t cs)
 (h:∀g,CN P ops w0 K n ds Q r ((d,nv.val g)::E) (AC g t cs::L)):CN P ops w0 K n ds Q (o::r) E L:=by
 intro a w ha hL;unfold wpList;rw[if_pos (BV hw ha)];refine .inl ?_;unfold Oper.wp;rw[hx a w ha,Oper.upon_value,hd];exact h w.heap.size _ _ (ha.put (some d) _) (hL.alloc t cs)
theorem Bk(hd:o.dst=some d)(hw:want n E ops o=some true){C:Value->List Chunk->Prop}(hx:A0o P w0 K n ds E L o C)
 (h:∀v L',C v L'->CN P ops w0 K n ds Q r ((d,v)::E) (L'++L)):CN P ops w0 K n ds Q (o::r) E L:=
 CN.run hd hw (R:=fun v w'=>∃L',C v L'/\AR w0 K w' (L'++L)) (fun a w ha hL=>(hx a w ha hL).mono fun v w' ⟨L',hC,hO⟩=>⟨L',hC,hL.add hO⟩)
  (fun a w v w' ha _ ⟨L',hC,hO⟩=>h v L' hC _ _ (ha.put (some d) _) hO)
theorem AU(hd:o.dst=some d)(hw:want n E ops o=some true){C:Value->List Chunk->Prop}(hx:SP P w0 K n ds E L o C)
 (h:∀v L',C v L'->CN P ops w0 K n ds Q r ((d,v)::E) L'):CN P ops w0 K n ds Q (o::r) E L:=
 CN.run hd hw (R:=fun v w'=>∃L',C v L'/\AR w0 K w' L') (fun a w ha hL=>hx a w ha hL)
  (fun a w v w' ha _ ⟨L',hC,hO⟩=>h v L' hC _ _ (ha.put (some d) _) hO)
theorem CN.gen0(hd:o.dst=none)(hw:want n E ops o=some true){C:Value->List Chunk->Prop}(hx:SP P w0 K n ds E L o C)
 (h:∀v L',C v L'->CN P ops w0 K n ds Q r E L'):CN P ops w0 K n ds Q (o::r) E L:=
 CN.run hd hw (R:=fun v w'=>∃L',C v L'/\AR w0 K w' L') (fun a w ha hL=>hx a w ha hL)
  (fun a w v w' ha _ ⟨L',hC,hO⟩=>h v L' hC _ _ ha hO)
def Sto(P:Program)(w0:World)(K:List Nat)(n:Nat)(ds:List Deferred)(E:Env)(L:List Chunk)(o:Oper)(L':List Chunk):Prop:=
 ∀a w,DM n ds E a->AR w0 K w L->∃w',(execOp a.eval o).run P w= .ok .skip w'/\AR w0 K w' L'
theorem Sto.gen{L':List Chunk}(h:Sto P w0 K n ds E L o L'):SP P w0 K n ds E L o (fun v M=>v=undef/\M=L'):=by
 intro a w ha hL;obtain⟨w',h1,h2⟩:=h a w ha hL;unfold B1;rw[h1];exact⟨L',⟨rfl,rfl⟩,h2⟩
theorem CN.sto(hd:o.dst=none)(hw:want n E ops o=some true){L':List Chunk}(hx:Sto P w0 K n ds E L o L')(h:CN P ops w0 K n ds Q r E L'):CN P ops w0 K n ds Q (o::r) E L:=
 CN.gen0 hd hw hx.gen fun v M hC=>by obtain⟨rfl,rfl⟩:=hC;exact h
/-! ### the same inside a region that draws its order -/
variable{Lf:List Chunk}{cl:List Qy}{A:List Nat}{Qa:Act->World->Prop}{i:Nat}{ri:List Nat}{Ls:List Chunk}{Ln:List (Nat×Chunk)}
theorem BF.pur(ho:ops[i]? =some o)(hd:o.dst=some d)(hw:want n E ops o=some true)(hv:EL P n ds E o v)(h:BF P ops w0 K n ds Lf cl A Qa ri ((d,v)::E) Ls Ln):
  BF P ops w0 K n ds Lf cl A Qa (i::ri) E Ls Ln:=
 .val true ho (.inl rfl) (fun a w ha _ _=>.inl ⟨BV hw ha,hv a w ha⟩) (by rw[hd];exact h)
theorem BF.skip(ho:ops[i]? =some o)(hd:o.dst=some d)(hw:want n E ops o=some false)(h:BF P ops w0 K n ds Lf cl A Qa ri ((d,undef)::E) Ls Ln):
  BF P ops w0 K n ds Lf cl A Qa (i::ri) E Ls Ln:=
 .val true ho (.inl rfl) (fun a w ha _ _=>.inr ⟨BV hw ha,rfl⟩) (by rw[hd];exact h)
theorem BF.skip0(ho:ops[i]? =some o)(hd:o.dst=none)(hw:want n E ops o=some false)(h:BF P ops w0 K n ds Lf cl A Qa ri E Ls Ln):
  BF P ops w0 K n ds Lf cl A Qa (i::ri) E Ls Ln:=
 .val (v:=undef) true ho (.inl rfl) (fun a w ha _ _=>.inr ⟨BV hw ha,rfl⟩) (by rw[hd];exact h)
theorem BG(ho:ops[i]? =some o)(hd:o.dst=some d)(hw:want n E ops o=some true)(hv:Val P w0 K n ds E Lf o v)(h:BF P ops w0 K n ds Lf cl A Qa ri ((d,v)::E) Ls Ln):
  BF P ops w0 K n ds Lf cl A Qa (i::ri) E Ls Ln:=
 .val true ho (.inl rfl) (fun a w ha hf _=>.inl ⟨BV hw ha,hv a w ha hf⟩) (by rw[hd];exact h)
theorem W7(ho:ops[i]? =some o)(hc:cl.getD i .q= .v)(hd:o.dst=some d)(hw:want n E ops o=some true){V:List Chunk}(hV:HN A i Ln++Ls=V)(hv:Val P w0 K n ds E V o v)
 (h:BF P ops w0 K n ds Lf cl A Qa ri ((d,v)::E) Ls Ln):BF P ops w0 K n ds Lf cl A Qa (i::ri) E Ls Ln:=
 .val false ho (.inr hc) (fun a w ha _ hw'=>.inl ⟨BV hw ha,hv a w ha (by subst hV;exact hw'.resolve_left (by simp))⟩) (by rw[hd];exact h)
theorem A8(ho:ops[i]? =some o)(hc:cl.getD i .q= .n)(hd:o.dst=some d)(hw:want n E ops o=some true){nv:Uv}{t:Nat}{cs:Array Value}(hx:New P n ds E o nv t cs)
 (h:∀g,BF P ops w0 K n ds Lf cl A Qa ri ((d,nv.val g)::E) Ls ((i,AC g t cs)::Ln)):BF P ops w0 K n ds Lf cl A Qa (i::ri) E Ls Ln:=
 .new ho hc (fun a ha=>BV hw ha) nv t cs hx (by rw[hd];exact h)
theorem IF(ho:ops[i]? =some o)(hc:cl.getD i .q= .r)(hd:o.dst=some d)(hw:want n E ops o=some true){V:List Chunk}(hV:HN A i Ln++Ls=V){C:Value->List Chunk->Prop}
 (hx:A0o P w0 K n ds E V o C)(h:∀v L',C v L'->BF P ops w0 K n ds Lf cl A Qa ri ((d,v)::E) Ls (L'.map (fun c=>(i,c))++Ln)):BF P ops w0 K n ds Lf cl A Qa (i::ri) E Ls Ln:=
 .rel ho hc (fun a ha=>BV hw ha) C (fun a w ha hw'=>hx a w ha (by subst hV;exact hw')) (by rw[hd];exact h)
theorem C5(ho:ops[i]? =some o)(hc:cl.getD i .q= .g)(hd:o.dst=some d)(hw:want n E ops o=some true){V:List Chunk}(hV:Ln.map (·.2)++Ls=V){C:Value->List Chunk->Prop}
 (hx:SP P w0 K n ds E V o C)(hl:∀v L',C v L'->∀w,AR w0 K w L'->AR w0 K w Lf)(h:∀v L',C v L'->BF P ops w0 K n ds Lf cl A Qa ri ((d,v)::E) L' []):BF P ops w0 K n ds Lf cl A Qa (i::ri) E Ls Ln:=
 .gen ho hc (fun a ha=>BV hw ha) C (fun a w ha hw'=>hx a w ha (by subst hV;exact hw')) hl (by rw[hd];exact h)
theorem BF.sto(ho:ops[i]? =some o)(hc:cl.getD i .q= .g)(hd:o.dst=none)(hw:want n E ops o=some true){V:List Chunk}(hV:Ln.map (·.2)++Ls=V){L':List Chunk}
 (hx:Sto P w0 K n ds E V o L')(hl:∀w,AR w0 K w L'->AR w0 K w Lf)(h:BF P ops w0 K n ds Lf cl A Qa ri E L' []):BF P ops w0 K n ds Lf cl A Qa (i::ri) E Ls Ln:=
 .gen ho hc (fun a ha=>BV hw ha) _ (fun a w ha hw'=>hx.gen a w ha (by subst hV;exact hw')) (fun v M hC w ho=>by obtain⟨rfl,rfl⟩:=hC;exact hl w ho) (fun v M hC=>by obtain⟨rfl,rfl⟩:=hC;rw[hd];exact h)
theorem W8(ho:ops[i]? =some o)(hc:cl.getD i .q= .s)(hd:o.dst=none)(hw:want n E ops o=some true){V:List Chunk}(hV:Ln.map (·.2)++Ls=V){L':List Chunk}
 (hx:∀F,Sto P w0 K n ds E (V++F) o (L'++F))(hl:∀w,AR w0 K w L'->AR w0 K w Lf)(h:BF P ops w0 K n ds Lf cl A Qa ri E L' []):BF P ops w0 K n ds Lf cl A Qa (i::ri) E Ls Ln:=
 .stl L' ho hc (fun a ha=>BV hw ha) (fun a w F ha hO=>by
  obtain⟨w',h1,h2⟩:=hx F a w ha (by subst hV;exact hO);unfold B1;rw[h1];exact⟨rfl,h2⟩) hl (by rw[hd];exact h)
theorem AF{V:List Chunk}(hV:Ln.map (·.2)++Ls=V)(h:Dl w0 K n ds Qa E V):BF P ops w0 K n ds Lf cl A Qa [] E Ls Ln:=.done (by subst hV;exact h)
/-! ### statements -/
theorem Ai{x y:Code}(h:DC P w0 K n ds (Exit.then (y.wp P Q) Q) x E L):DC P w0 K n ds Q (.seq x y) E L:=fun a w ha hL=>wp_seq (h a w ha hL)
theorem Aa{y:Code}(h:DC P w0 K n ds Q y E L):Dl w0 K n ds (Exit.then (y.wp P Q) Q .normal) E L:=h
theorem An{id:Nat}(h:Dl w0 K n ds (Q .normal) E L):Dl w0 K n ds (Exit.inBlock id Q .normal) E L:=h
theorem Ad{k:Act->World->Prop}(h:Dl w0 K n ds (Q .ret) E L):Dl w0 K n ds (Exit.then k Q .ret) E L:=h
theorem Am{id:Nat}(h:Dl w0 K n ds (Q .ret) E L):Dl w0 K n ds (Exit.inBlock id Q .ret) E L:=h
theorem Ag{k:Act->World->Prop}{id:Nat}(h:Dl w0 K n ds (Q (.exit id)) E L):Dl w0 K n ds (Exit.then k Q (.exit id)) E L:=h
theorem Aq{id:Nat}(h:Dl w0 K n ds (Q .normal) E L):Dl w0 K n ds (Exit.inBlock id Q (.exit id)) E L:=by
 intro a w ha hL;show(if id=id then Q .normal a w else Q (.exit id) a w);rw[if_pos rfl];exact h a w ha hL
theorem Fb{id id':Nat}(hne:id'≠id)(h:Dl w0 K n ds (Q (.exit id')) E L):Dl w0 K n ds (Exit.inBlock id Q (.exit id')) E L:=by
 intro a w ha hL;show(if id'=id then Q .normal a w else Q (.exit id') a w);rw[if_neg hne];exact h a w ha hL
theorem Ak{l:List Oper}{id:Nat}(h:CN P l.toArray w0 K n ds Q l E L):DC P w0 K n ds Q (.region id l.toArray false) E L:=fun a w ha hL=>wp_region_lit (h a w ha hL)
theorem II{id:Nat}{order:List Nat}(Lf:List Chunk)(hm:P.follows .mixedOrders=true)(hchk:Hl ops cl A order=true)(hLf:∀w,AR w0 K w L->AR w0 K w Lf)(h:BF P ops w0 K n ds Lf cl A (Q .normal) order E L []):
  DC P w0 K n ds Q (.region id ops true) E L:=LT hm hchk hLf h
theorem At(h:Dl w0 K n ds (Q .ret) E L):DC P w0 K n ds Q .ret E L:=fun a w ha hL=>wp_ret (h a w ha hL)
theorem AN{id:Nat}(h:Dl w0 K n ds (Q (.exit id)) E L):DC P w0 K n ds Q (.exit id) E L:=fun a w ha hL=>wp_exit (h a w ha hL)
theorem Ao(h:Dl w0 K n ds (Q .normal) E L):DC P w0 K n ds Q .skip E L:=fun a w ha hL=>wp_skip (h a w ha hL)
theorem As{id:Nat}{c:Code}(h:DC P w0 K n ds (Exit.inBlock id Q) c E L):DC P w0 K n ds Q (.block id c) E L:=fun a w ha hL=>wp_block (h a w ha hL)
theorem DC.cond{c:Operand}{x y:Code}{b:Bool}(hc:ev n E c=some (.bool b))(h1:b=true->DC P w0 K n ds Q x E L)(h2:b=false->DC P w0 K n ds Q y E L):
  DC P w0 K n ds Q (.cond c x y) E L:=fun a w ha hL=>wp_cond_split (ha.ev hc) (fun h=>h1 h a w ha hL) (fun h=>h2 h a w ha hL)
/-! ### forgetting -/
def Sub(E:Env):Env->Prop
 | []=>True
 | (t,v)::r=>E.get t=some v/\Sub E r
theorem Sub.get{E E':Env}(h:Sub E E'):∀t v,E'.get t=some v->E.get t=some v:=by
 induction E' with
 | nil=>intro t v hv;cases hv
 | cons p r ih=>
  obtain⟨k,u⟩:=p;intro t v hv;rw[B5] at hv;split at hv
  .rename_i hk;cases hv;subst hk;exact h.1
  exact ih h.2 t v hv
inductive Dd:List Chunk->List Chunk->Prop
 | nil {M:List Chunk}:Dd M []
 | cons {M:List Chunk} {c:Chunk} {L':List Chunk} (i:Nat) (h:M[i]? =some c) (r:Dd (M.eraseIdx i) L'):Dd M (c::L')
theorem Bj:∀{M:List Chunk} {i:Nat} {c:Chunk},M[i]? =some c->M.Perm (c::M.eraseIdx i)
 | [],i,c,h=>by simp at h
 | x::M,0,c,h=>by simp at h;subst h;simp
 | x::M,i+1,c,h=>by
  simp only[A2P] at h;simp only[A2Q];exact((Bj h).cons x).trans (.swap _ _ _)
theorem AR.pick{w:World}{L':List Chunk}(h:AR w0 K w L)(hp:Dd L L'):AR w0 K w L':=by
 have:∃F,L.Perm (L'++F):=by
  clear h
  induction hp with
  | nil=>exact⟨_,.refl _⟩
  | cons i h r ih=>
   rename_i M c L';obtain⟨F,hF⟩:=ih;refine⟨F,?_⟩;have h1:M.Perm (c::M.eraseIdx i):=Bj h;exact h1.trans (by simpa using hF.cons c)
 obtain⟨F,hF⟩:=this;exact(h.perm hF.symm).sub (A1J _ _)
theorem Ay(L:List Chunk):Dd L L:=by
 induction L with
 | nil=>exact .nil
 | cons c L ih=>exact .cons 0 rfl ih
theorem AZ{Qa:Act->World->Prop}{E':Env}{L':List Chunk}(hE:Sub E E')(hL:Dd L L')(h:Dl w0 K n ds Qa E' L'):Dl w0 K n ds Qa E L:=
 fun a w ha hO=>h a w (ha.mono hE.get) (hO.pick hL)
theorem DC.weak{c:Code}{E':Env}{L':List Chunk}(hE:Sub E E')(hL:Dd L L')(h:DC P w0 K n ds Q c E' L'):DC P w0 K n ds Q c E L:=
 fun a w ha hO=>h a w (ha.mono hE.get) (hO.pick hL)
/-! ### a loop: states by ghosts -/
def A0i(w0:World)(K:List Nat)(n:Nat)(ds:List Deferred){ι:Type}(Inv:ι->Prop)(Es:ι->Env)(Ls:ι->List Chunk)(m:ι->Nat)(k:Nat)(a:Act)(w:World):Prop:=
 ∃j,m j<k/\Inv j/\DM n ds (Es j) a/\AR w0 K w (Ls j)
theorem AS{ι:Type}(Inv:ι->Prop)(Es:ι->Env)(Ls:ι->List Chunk)(m:ι->Nat)(i0:ι){c:Code}(h0:Inv i0)(hE:Sub E (Es i0))(hL:Dd L (Ls i0))
 (h:∀i,Inv i->DC P w0 K n ds (Exit.then (A0i w0 K n ds Inv Es Ls m (m i)) Q) c (Es i) (Ls i)):DC P w0 K n ds Q (.loop c) E L:=by
 intro a w ha hO;refine wp_loop_ghost (fun k a w=>∃i,m i=k/\Inv i/\DM n ds (Es i) a/\AR w0 K w (Ls i)) (m i0) ⟨i0,rfl,h0,ha.mono hE.get,hO.pick hL⟩ ?_;rintro k a w ⟨i,rfl,hi,ha,hO⟩;refine wp_mono (h i hi a w ha hO) ?_;intro e a' w' hq;cases e with
 | normal=>obtain⟨j,hlt,hj,hs,ho⟩:=hq;exact⟨m j,hlt,j,rfl,hj,hs,ho⟩
 | exit id=>exact hq
 | goto l=>exact hq
 | ret=>exact hq
 | panic ch=>exact hq
 | outgrown=>exact hq
theorem AB{ι:Type}{Inv:ι->Prop}{Es:ι->Env}{Ls:ι->List Chunk}{m:ι->Nat}{k:Nat}(j:ι)(hlt:m j<k)(hj:Inv j)(hE:Sub E (Es j))(hL:Dd L (Ls j)):
  Dl w0 K n ds (Exit.then (A0i w0 K n ds Inv Es Ls m k) Q .normal) E L:=
 fun a w ha hO=>⟨j,hlt,hj,ha.mono hE.get,hO.pick hL⟩
/-! ### calls -/
def Ret(w0:World)(K:List Nat)(C:Value->List Chunk->Prop)(e:Ending)(w:World):Prop:=∃v L,e= .returned v/\C v L/\AR w0 K w L
def EJ:Nat->List Value->Env
 | _,[]=>[]
 | k,v::r=>(k,v)::EJ (k+1) r
theorem Er:∀(l:List Value) (k t:Nat) (v:Value),(EJ k l).get t=some v->k<=t/\l[t-k]? =some v
 | [],_,_,_,h=>by cases h
 | u::r,k,t,v,h=>by
  unfold EJ at h;rw[B5] at h;split at h
  .rename_i hk;cases h;subst hk;simp
  rename_i hk;obtain⟨h1,h2⟩:=Er r (k+1) t v h;refine⟨by omega,?_⟩;have:t-k=(t-(k+1))+1:=by omega
  rw[this,A2P];exact h2
theorem BO{f:FuncId}{fn:Func}{c:Code}{args:List Value}{C:Value->List Chunk->Prop}{w:World}{K:List Nat}{L:List Chunk}(hf:P.funcs[f]? =some fn)(hb:fn.body=some c)
 (hn:fn.ntmps=n)(hle:Nat.ble args.length n=true)(hO:AR w K w L)(h:DC P w K n [] (bodyPost P fn (Ret w K C)) c (EJ 0 args) L):Calls P f args.toArray w (Ret w K C):=by
 refine calls_of_wp hf hb (h _ _ ⟨?_,rfl,fun t v hv ht=>?_⟩ hO)
 .have:=A1f hle;simp[hn];omega
 obtain⟨_,h2⟩:=Er args 0 t v hv;simp only[A2R] at h2;have hlt:t<args.length:=(A1e.1 h2).1;simp[A3r,hlt];simpa [A1d hlt] using h2
theorem A0g{fn:Func}{t:Tmp}{C:Value->List Chunk->Prop}{e:Exit}(he:e= .ret\/e= .normal)(hr:fn.results=#[.tmp t])(hv:ev n E (.tmp t)=some v)(hC:C v L):Dl w0 K n [] (bodyPost P fn (Ret w0 K C) e) E L:=by
 intro a w ha hO;have h1:a.defers=[]/\∃v,(results fn a.tmps).run P w= .ok v w/\Ret w0 K C (.returned v) w:=by
  refine⟨ha.defers,_,results_tmp hr _ _ _,_,L,rfl,?_,hO⟩;have:=ha.ev hv;simp only[Act.eval] at this;rw[this];exact hC
 rcases he with rfl|rfl<;>exact h1
theorem BQ{fn:Func}{C:Value->List Chunk->Prop}{e:Exit}(he:e= .ret\/e= .normal)(hr:fn.results=#[])(hC:C (.tuple #[]) L):Dl w0 K n [] (bodyPost P fn (Ret w0 K C) e) E L:=by
 intro a w ha hO;have h1:a.defers=[]/\∃v,(results fn a.tmps).run P w= .ok v w/\Ret w0 K C (.returned v) w:=⟨ha.defers,_,results_none hr _ _ _,_,L,rfl,hC,hO⟩;rcases he with rfl|rfl<;>exact h1
theorem Bq{fn:Func}{t u:Tmp}{v1 v2:Value}{C:Value->List Chunk->Prop}{e:Exit}(he:e= .ret\/e= .normal)(hr:fn.results=#[.tmp t,.tmp u])(hv1:ev n E (.tmp t)=some v1)
 (hv2:ev n E (.tmp u)=some v2)(hC:C (.tuple #[v1,v2]) L):Dl w0 K n [] (bodyPost P fn (Ret w0 K C) e) E L:=by
 intro a w ha hO;have h1:a.defers=[]/\∃v,(results fn a.tmps).run P w= .ok v w/\Ret w0 K C (.returned v) w:=by
  refine⟨ha.defers,_,results_tmp2 hr _ _ _,_,L,rfl,?_,hO⟩;have h1:=ha.ev hv1;have h2:=ha.ev hv2;simp only[Act.eval] at h1 h2;rw[h1,h2];exact hC
 rcases he with rfl|rfl<;>exact h1
end
end
section
variable[Lo]
/-! ### the program's types, asked by the kernel -/
def BD(P:Program)(t:TypeId):Option Nat:=(P.info? t).map (·.size)
def Ee(P:Program)(t:TypeId):Option Nat:=(P.info? t).map (·.bytes)
def B2(P:Program)(t:TypeId):Option Value:=(P.info? t).bind (·.zero)
def CG(P:Program)(t:TypeId):Option Bool:=
 match P.underlying t with
 | some (.struct _)=>some true
 | some (.array _ _)=>some true
 | some _=>some false
 | none=>none
def Ic(P:Program)(s k:Nat):Option (Nat×TypeId):=
 match P.underlying s with
 | some (.struct fs)=>
  match fs[k]? with
  | some f=>match BD P f.type with
   | some (m+1)=>some (f.offset,f.type)
   | _=>none
  | none=>none
 | _=>none
section
variable{P:Program}{w:World}{t:TypeId}
theorem Cp{m:Nat}(h:BD P t=some m):(sizeOf t).run P w= .ok m w:=by
 unfold BD at h;cases hi:P.info? t with
 | none=>rw[hi] at h;cases h
 | some i=>rw[hi] at h;cases h;simp[sizeOf,typeInfo,hi]
theorem Ip{z:Value}(h:B2 P t=some z):(zeroValue t).run P w= .ok z w:=by
 unfold B2 at h;cases hi:P.info? t with
 | none=>rw[hi] at h;cases h
 | some i=>rw[hi] at h;simp at h;simp[zeroValue,typeInfo,hi,h]
theorem HW{b:Bool}(h:CG P t=some b):(isAgg t).run P w= .ok b w:=by
 unfold CG at h;cases hu:P.underlying t with
 | none=>rw[hu] at h;cases h
 | some d=>
  rw[hu] at h;cases d<;>(cases h;simp[isAgg,run_underlying hu])
theorem Tl{s k off ft:Nat}{a:Addr}(h:Ic P s k=some (off,ft)):(Instr.fieldAt s (.pointer (some a)) k).run P w= .ok (.pointer (some (a.add off))) w:=by
 unfold Ic at h;split at h
 .rename_i fs hu;split at h
  .rename_i f hf;split at h
   .rename_i m hm;cases h;simp[Instr.fieldAt,run_underlying hu,hf,Instr.sureAddr,fieldPlace,Cp hm]
   cases h
  cases h
 cases h
end
/-! ### operations that ask no memory -/
section
variable{P:Program}{n:Nat}{ds:List Deferred}{E:Env}{o:Oper}{x y z:Operand}{v u:Value}
theorem H2(ho:o.op= .move x)(hx:ev n E x=some v):EL P n ds E o v:=by
 intro a w ha;simp[execOp,ho,ha.ev hx]
theorem Rm(ho:o.op= .assign x)(hx:ev n E x=some v):EL P n ds E o v:=by
 intro a w ha;simp[execOp,ho,ha.ev hx]
theorem Yk(ho:o.op= .pick x y z)(hx:ev n E x=some (.bool true))(hy:ev n E y=some v):EL P n ds E o v:=by
 intro a w ha;simp[execOp,ho,ha.ev hx,ha.ev hy,asBool]
theorem Ri(ho:o.op= .pick x y z)(hx:ev n E x=some (.bool false))(hz:ev n E z=some v):EL P n ds E o v:=by
 intro a w ha;simp[execOp,ho,ha.ev hx,ha.ev hz,asBool]
theorem p_nil{ad:Addr}(ho:o.op= .nilCheck x)(hx:ev n E x=some (.pointer (some ad))):EL P n ds E o (.pointer (some ad)):=by
 intro a w ha;simp[execOp,ho,ha.ev hx]
theorem Yn{b:Bool}{t:TypeId}(ho:o.op= .unOp .not t x)(hx:ev n E x=some (.bool b)):EL P n ds E o (.bool (!b)):=by
 intro a w ha;simp[execOp,ho,ha.ev hx,Op.unary]
theorem Oc{k:Nat}{vs:Array Value}(ho:o.op= .extract x k)(hx:ev n E x=some (.tuple vs))(hk:vs[k]? =some v):EL P n ds E o v:=by
 intro a w ha;simp[execOp,ho,ha.ev hx,Instr.extract,hk]
theorem Ps{s k off ft:Nat}{ad ad':Addr}(ho:o.op= .fieldAddr s x k)(hx:ev n E x=some (.pointer (some ad)))(hf:Ic P s k=some (off,ft))(he:ad.add off=ad'):
  EL P n ds E o (.pointer (some ad')):=by
 intro a w ha;subst he;simp[execOp,ho,ha.ev hx,Tl hf]
theorem Bz{t e m len cap:Nat}{ad ad':Addr}{k:IntKind}{i:Int}(ho:o.op= .indexAddr t x y)(hx:ev n E x=some (.slice (some ad) len cap))(hy:ev n E y=some (.int k i))
 (ht:P.underlying t=some (.slice e))(hm:BD P e=some m)(h0:0<=i)(h1:i<len)(he:ad.add (i.toNat*m)=ad'):EL P n ds E o (.pointer (some ad')):=by
 intro a w ha;subst he;simp[execOp,ho,ha.ev hx,ha.ev hy,Instr.indexAt,asIntOf,run_underlying ht,Cp hm,h0,h1]
theorem AX(g j:Nat):(⟨g,0,none⟩:Addr).add j=⟨g,j,none⟩:=by unfold Addr.add;split<;>simp_all
theorem B4{t e len cap:Nat}{ad ad':Addr}{k:IntKind}{i:Int}(ho:o.op= .indexAddr t x y)(hx:ev n E x=some (.slice (some ad) len cap))(hy:ev n E y=some (.int k i))
 (ht:P.underlying t=some (.slice e))(hm:BD P e=some 1)(h0:0<=i)(h1:i<len)(he:ad.add i.toNat=ad'):EL P n ds E o (.pointer (some ad')):=
 Bz ho hx hy ht hm h0 h1 (by rw[A3d];exact he)
theorem Ff{op:BinOp}{t t':TypeId}{k:IntKind}{i j r:Int}(ho:o.op= .binOp op t x y t')(hx:ev n E x=some (.int k i))(hy:ev n E y=some (.int k j))
 (hr:∀w,(binOp op t (.int k i) (.int k j)).run P w= .ok v w):EL P n ds E o v:=by
 intro a w ha;have hg:(eqGuard op t x y (.int k i) (.int k j)).run P w= .ok () w:=by
  unfold eqGuard;cases op<;>simp
 simp[execOp,ho,ha.ev hx,ha.ev hy,hg,hr]
theorem DY{i:Int}(h: -9223372036854775808<=i/\i<=9223372036854775807):IntKind.i64.wrap i=i:=by
 rw[IntKind.wrap_i64];omega
theorem UU{t t':TypeId}{i j:Int}(ho:o.op= .binOp .add t x y t')(hx:ev n E x=some (.int .i64 i))(hy:ev n E y=some (.int .i64 j))
 (hb: -9223372036854775808<=i+j/\i+j<=9223372036854775807):EL P n ds E o (.int .i64 (i+j)):=Ff (r:=0) ho hx hy fun w=>by simp[binOp,Op.intArith,DY hb]
theorem p_sub{t t':TypeId}{i j:Int}(ho:o.op= .binOp .sub t x y t')(hx:ev n E x=some (.int .i64 i))(hy:ev n E y=some (.int .i64 j))
 (hb: -9223372036854775808<=i-j/\i-j<=9223372036854775807):EL P n ds E o (.int .i64 (i-j)):=Ff (r:=0) ho hx hy fun w=>by simp[binOp,Op.intArith,DY hb]
theorem Dz{t t':TypeId}{i j:Int}(ho:o.op= .binOp .mul t x y t')(hx:ev n E x=some (.int .i64 i))(hy:ev n E y=some (.int .i64 j))
 (hb: -9223372036854775808<=i*j/\i*j<=9223372036854775807):EL P n ds E o (.int .i64 (i*j)):=Ff (r:=0) ho hx hy fun w=>by simp[binOp,Op.intArith,DY hb]
theorem Px{t t':TypeId}{i j:Int}(ho:o.op= .binOp .add t x y t')(hx:ev n E x=some (.int .i64 i))(hy:ev n E y=some (.int .i64 j)):
  EL P n ds E o (.int .i64 (IntKind.i64.wrap (i+j))):=Ff (r:=0) ho hx hy fun w=>by simp[binOp,Op.intArith]
theorem Yc{t t':TypeId}{i j:Int}(ho:o.op= .binOp .sub t x y t')(hx:ev n E x=some (.int .i64 i))(hy:ev n E y=some (.int .i64 j)):
  EL P n ds E o (.int .i64 (IntKind.i64.wrap (i-j))):=Ff (r:=0) ho hx hy fun w=>by simp[binOp,Op.intArith]
theorem Gi{t t':TypeId}{i j:Int}(ho:o.op= .binOp .quo t x y t')(hx:ev n E x=some (.int .i64 i))(hy:ev n E y=some (.int .i64 j))
 (hi:0<=i/\i<=9223372036854775807)(hj:0<j):EL P n ds E o (.int .i64 (i / j)):=Ff (r:=0) ho hx hy fun w=>by
 have h1:i.tdiv j=i / j:=Int.tdiv_eq_ediv_of_nonneg hi.1;have h2:0<=i / j:=Int.ediv_nonneg hi.1 (by omega);have h3:i / j<=i:=Int.ediv_le_self _ hi.1;simp[binOp,Op.intDiv,show j≠0 by omega,h1,DY (i:=i / j) ⟨by omega,by omega⟩]
theorem Ye{t t':TypeId}{i j:Int}(ho:o.op= .binOp .rem t x y t')(hx:ev n E x=some (.int .i64 i))(hy:ev n E y=some (.int .i64 j))
 (hi:0<=i)(hj:0<j):EL P n ds E o (.int .i64 (i%j)):=Ff (r:=0) ho hx hy fun w=>by
 have h1:i.tmod j=i%j:=Int.tmod_eq_emod_of_nonneg hi;simp[binOp,Op.intDiv,show j≠0 by omega,h1]
theorem p_lss{t t':TypeId}{k:IntKind}{i j:Int}(ho:o.op= .binOp .lss t x y t')(hx:ev n E x=some (.int k i))(hy:ev n E y=some (.int k j)):
  EL P n ds E o (.bool (decide (i<j))):=Ff (r:=0) ho hx hy fun w=>by simp[binOp,Op.intCmp]
theorem p_leq{t t':TypeId}{k:IntKind}{i j:Int}(ho:o.op= .binOp .leq t x y t')(hx:ev n E x=some (.int k i))(hy:ev n E y=some (.int k j)):
  EL P n ds E o (.bool (decide (i<=j))):=Ff (r:=0) ho hx hy fun w=>by simp[binOp,Op.intCmp]
theorem p_gtr{t t':TypeId}{k:IntKind}{i j:Int}(ho:o.op= .binOp .gtr t x y t')(hx:ev n E x=some (.int k i))(hy:ev n E y=some (.int k j)):
  EL P n ds E o (.bool (decide (j<i))):=Ff (r:=0) ho hx hy fun w=>by simp[binOp,Op.intCmp]
theorem p_geq{t t':TypeId}{k:IntKind}{i j:Int}(ho:o.op= .binOp .geq t x y t')(hx:ev n E x=some (.int k i))(hy:ev n E y=some (.int k j)):
  EL P n ds E o (.bool (decide (j<=i))):=Ff (r:=0) ho hx hy fun w=>by simp[binOp,Op.intCmp]
theorem p_eql{t t':TypeId}{k:IntKind}{i j:Int}(ho:o.op= .binOp .eql t x y t')(hx:ev n E x=some (.int k i))(hy:ev n E y=some (.int k j)):
  EL P n ds E o (.bool (decide (i=j))):=Ff (r:=0) ho hx hy fun w=>by
 have:(i==j)=decide (i=j):=by by_cases h:i=j<;>simp[h]
 simp[binOp,Op.intCmp,this]
theorem p_neq{t t':TypeId}{k:IntKind}{i j:Int}(ho:o.op= .binOp .neq t x y t')(hx:ev n E x=some (.int k i))(hy:ev n E y=some (.int k j)):
  EL P n ds E o (.bool (decide (i≠j))):=Ff (r:=0) ho hx hy fun w=>by
 have:(i !=j)=decide (i≠j):=by by_cases h:i=j<;>simp[h]
 simp[binOp,Op.intCmp,this]
end
end
section
variable[Lo]
/-! ### looking a block up in the list of what is owned -/
class Find (L:List Chunk) (g:Nat) (t:outParam Nat) (cs:outParam (Array Value)):Prop where
 mem:AC g t cs∈L
instance (g t:Nat) (cs:Array Value) (L:List Chunk):Find (AC g t cs::L) g t cs:=⟨A1m ..⟩
instance (priority:=low) (c:Chunk) (L:List Chunk) (g t:Nat) (cs:Array Value) [h:Find L g t cs]:Find (c::L) g t cs:=⟨A1q _ h.mem⟩
class Up (L:List Chunk) (g:Nat) (t:outParam Nat) (cs:outParam (Array Value)) (up:outParam (Array Value->List Chunk)):Prop where
 split:∃R,L.Perm (AC g t cs::R)/\∀cs',(up cs').Perm (AC g t cs'::R)
instance (g t:Nat) (cs:Array Value) (L:List Chunk):Up (AC g t cs::L) g t cs (fun cs'=>AC g t cs'::L):=⟨L,.refl _,fun _=>.refl _⟩
instance (priority:=low) (c:Chunk) (L:List Chunk) (g t:Nat) (cs:Array Value) (up:Array Value->List Chunk) [h:Up L g t cs up]:Up (c::L) g t cs (fun cs'=>c::up cs'):=by
 obtain⟨R,h1,h2⟩:=h.split;exact⟨c::R,(h1.cons c).trans (.swap _ _ _),fun cs'=>((h2 cs').cons c).trans (.swap _ _ _)⟩
def Ll(w0:World)(K:List Nat)(L:List Chunk)(ad:Addr)(v:Value):Prop:=∀w,AR w0 K w L->w.cell? ad=some v
section
variable{P:Program}{w0:World}{K:List Nat}{n:Nat}{ds:List Deferred}{E:Env}{L:List Chunk}{o:Oper}{x y z:Operand}{v u:Value}
theorem Cm(g i j:Nat):(⟨g,i,none⟩:Addr).add j=⟨g,i+j,none⟩:=by unfold Addr.add;split<;>simp_all
def TQ:List Value->Nat->Option Value
 | [],_=>none
 | x::_,0=>some x
 | _::r,n+1=>TQ r n
theorem PG:∀(l:List Value) (i:Nat),TQ l i=l[i]?
 | [],i=>by simp[TQ]
 | x::r,0=>by simp[TQ]
 | x::r,i+1=>by simp[TQ,PG r i]
theorem AK{g t i:Nat}{cs:Array Value}[h:Find L g t cs](hv:cs[i]? =some v):Ll w0 K L ⟨g,i,none⟩ v:=by
 intro w hw;have:=hw.holds _ h.mem;rw[cell_of_row w g i cs t (0,0) this];exact hv
theorem B0{g t i:Nat}{cs:Array Value}[h:Find L g t cs](hv:TQ cs.toList i=some v):Ll w0 K L ⟨g,i,none⟩ v:=
 AK (cs:=cs) (by rw[PG] at hv;simpa using hv)
theorem Vf{ad:Addr}(h:w0.cell? ad=some v)(hk:ad.block∉K):Ll w0 K L ad v:=by
 intro w hw;rw[hw.oldCell (World.block_lt_of_cell? w0 ad h) hk];exact h
theorem A7{ad:Addr}(h:w0.cell? ad=some v):Ll w0 [] L ad v:=Vf h (by simp)
theorem AG{t:TypeId}{ad:Addr}(ho:o.op= .load t x)(hx:ev n E x=some (.pointer (some ad)))(ht:CG P t=some false)(h:Ll w0 K L ad v):Val P w0 K n ds E L o v:=by
 intro a w ha hw;simp[execOp,ho,ha.ev hx,Instr.loadAt,Instr.sureAddr,loadVar,HW ht,h w hw]
def Jl(w0:World)(K:List Nat)(L:List Chunk)(ad:Addr)(vs:List Value):Prop:=∀w,AR w0 K w L->∀j u,vs[j]? =some u->w.cell? (ad.add j)=some u
theorem AW{g t i:Nat}{cs:Array Value}{vs:List Value}[h:Find L g t cs](hv:(cs.toList.drop i).take vs.length=vs):Jl w0 K L ⟨g,i,none⟩ vs:=by
 intro w hw j u hu;have:=hw.holds _ h.mem;rw[Cm,cell_of_row w g _ cs t (0,0) this];rw[<-hv,A2j] at hu;split at hu
 .rw[A2S] at hu;simpa using hu
 cases hu
theorem MK{ad:Addr}{vs:List Value}(h:∀j u,vs[j]? =some u->w0.cell? (ad.add j)=some u)(hk:ad.block∉K):Jl w0 K L ad vs:=by
 intro w hw j u hu;have h1:=h j u hu;rw[hw.oldCell (World.block_lt_of_cell? w0 _ h1) (by unfold Addr.add;split<;>exact hk)];exact h1
theorem A4{t:TypeId}{ad:Addr}{vs:List Value}{cs:Array Value}(ho:o.op= .load t x)(hx:ev n E x=some (.pointer (some ad)))(ht:CG P t=some true)(hs:BD P t=some vs.length)
 (hc:vs.toArray=cs)(h:Jl w0 K L ad vs):Val P w0 K n ds E L o (.agg cs):=by
 intro a w ha hw;subst hc;have:=run_loadCells_list (P:=P) w ad vs (h w hw);simp[execOp,ho,ha.ev hx,Instr.loadAt,Instr.sureAddr,loadVar,HW ht,Cp hs,this]
/-! ### stores -/
theorem own_up{w:World}{g t:Nat}{cs:Array Value}{up:Array Value->List Chunk}[h:Up L g t cs up](hw:AR w0 K w L)(i:Nat)(u:Value):
  AR w0 K (w.setCell ⟨g,i,none⟩ u) (up (cs.setIfInBounds i u)):=by
 obtain⟨R,h1,h2⟩:=h.split;exact((hw.perm h1.symm).set i u).perm (h2 _)
theorem MJ{w:World}{g t:Nat}{cs:Array Value}{up:Array Value->List Chunk}[h:Up L g t cs up](hw:AR w0 K w L):w.heap[g]? =some (.cells cs t (0,0)):=by
 obtain⟨R,h1,h2⟩:=h.split;exact hw.holds _ (h1.mem_iff.2 (A1m ..))
def one(v:Value):Bool:=v.oneCell'
theorem AP{t tb g i:Nat}{cs cs':Array Value}{up:Array Value->List Chunk}[h:Up L g tb cs up](ho:o.op= .store t x y)(hx:ev n E x=some (.pointer (some ⟨g,i,none⟩)))
 (hy:ev n E y=some u)(hs:BD P t=some 1)(h1:u.oneCell'=true)(hi:i<cs.size)(hc:cs.setIfInBounds i u=cs'):Sto P w0 K n ds E L o (up cs'):=by
 intro a w ha hw;subst hc;have hb:=MJ (g:=g) hw;have hcell:w.cell? ⟨g,i,none⟩=some cs[i]:=by rw[cell_of_row w g i cs tb (0,0) hb];simp[hi]
 have hfr:=frozen_of_row w g i cs tb hb;have hcells:u.cells=#[u]:=by cases u<;>first|rfl|cases h1
 have hst:(store (Addr.add ⟨g,i,none⟩ 0) u).run P w= .ok () (w.setCell ⟨g,i,none⟩ u):=by
  rw[Cm,run_store P w _ u _ h1];simp only[A2x,hcell,hfr];simp
 refine⟨w.setCell ⟨g,i,none⟩ u,?_,own_up hw i u⟩;simp[execOp,ho,ha.ev hx,ha.ev hy,Instr.storeAt,Instr.sureAddr,storeVar,hcells,Cp hs,storeCells,hst]
theorem Up.app{t g:Nat}{cs:Array Value}{up:Array Value->List Chunk}(F:List Chunk)(h:Up L g t cs up):Up (L++F) g t cs (fun cs'=>up cs'++F):=by
 obtain⟨R,h1,h2⟩:=h.split;exact⟨R++F,h1.append_right F,fun cs'=>(h2 cs').append_right F⟩
theorem XT{t tb g i:Nat}{cs cs':Array Value}{up:Array Value->List Chunk}[h:Up L g tb cs up](ho:o.op= .store t x y)(hx:ev n E x=some (.pointer (some ⟨g,i,none⟩)))
 (hy:ev n E y=some u)(hs:BD P t=some 1)(h1:u.oneCell'=true)(hi:i<cs.size)(hc:cs.setIfInBounds i u=cs'):∀F,Sto P w0 K n ds E (L++F) o (up cs'++F):=
 fun F=>AP (h:=Up.app F h) ho hx hy hs h1 hi hc
theorem K2(w:World)(g:Nat)(cs cs':Array Value)(t:Nat)(hb:w.heap[g]? =some (.cells cs t (0,0))):AR w [g] (w.setRow g cs') [AC g t cs']:=by
 have hlt:g<w.heap.size:=(A1t.1 hb).1;refine⟨rfl,rfl,rfl,Lo.refl _,by simp,fun k hk hn=>?_,by simp[AC],fun x hx=>?_,fun x hx=>?_,fun c hc=>?_⟩
 .simp at hn;simp only[World.setRow,A2O];rw[if_neg (by omega)]
 .simp[AC] at hx;subst hx;exact .inl (by simp)
 .simp[AC] at hx;subst hx;simpa using hlt
 simp at hc;subst hc;simp[AC,World.setRow,A2O,hb]
theorem Wf{w:World}{g t:Nat}{cs:Array Value}{up:Array Value->List Chunk}[h:Up L g t cs up](hw:AR w0 K w L)(cs':Array Value):
  AR w0 K (w.setRow g cs') (up cs'):=by
 have hb:=MJ (g:=g) hw;obtain⟨R,h1,h2⟩:=h.split;exact(AR.frame (Lc:=[AC g t cs]) (hw.perm h1.symm) (K2 w g cs cs' t hb) (fun k hk=>by simp[AC] at hk ⊢;exact hk)).perm (h2 _)
theorem B3{t tb g i:Nat}{cs cs' us:Array Value}{up:Array Value->List Chunk}[h:Up L g tb cs up](ho:o.op= .store t x y)(hx:ev n E x=some (.pointer (some ⟨g,i,none⟩)))
 (hy:ev n E y=some (.agg us))(hs:BD P t=some us.size)(h1:us.toList.all Value.oneCell'=true)(hi:i+us.size<=cs.size)
 (hc:(cs.toList.take i++us.toList++cs.toList.drop (i+us.size)).toArray=cs'):Sto P w0 K n ds E L o (up cs'):=by
 intro a w ha hw;have hb:=MJ (g:=g) hw;have hst:=run_storeCells_at P g i tb us.toList 0 cs w hb (by simpa using hi) (fun v hv=>A2c.1 h1 v hv);simp only[A2x,A3e] at hst;rw[hc] at hst;refine⟨w.setRow g cs',?_,Wf (g:=g) hw cs'⟩;simp[execOp,ho,ha.ev hx,ha.ev hy,Instr.storeAt,Instr.sureAddr,storeVar,Value.cells,Cp hs,hst]
/-! ### new memory -/
theorem DL{t:Nat}{zv:Value}{cs:Array Value}(ho:o.op= .alloc t)(hz:B2 P t=some zv)(hc:zv.cells=cs):New P n ds E o .ptr t cs:=by
 intro a w ha;subst hc;simp[execOp,ho,Instr.alloc,Ip hz,newVar,newRow,Uv.val]
theorem HE{t:Nat}{cs:Array Value}(ho:o.op= .box t x)(hx:ev n E x=some v)(hc:v.cells=cs):New P n ds E o .ptr t cs:=by
 intro a w ha;subst hc;simp[execOp,ho,ha.ev hx,Instr.box,newVar,newRow,Uv.val]
theorem LJ{t m b:Nat}{zv:Value}(hm:BD P t=some m)(hb:Ee P t=some b)(hz:B2 P t=some zv):∃i,P.info? t=some i/\i.size=m/\i.bytes=b/\i.zero=some zv:=by
 unfold BD at hm;unfold Ee at hb;unfold B2 at hz;cases hi:P.info? t with
 | none=>rw[hi] at hm;cases hm
 | some i=>rw[hi] at hm hb hz;exact⟨i,rfl,by simpa using hm,by simpa using hb,by simpa using hz⟩
theorem B6{t e m b:Nat}{zv:Value}{len:Int}{k:Nat}{cs:Array Value}(ho:o.op= .makeSlice t x y)(hx:ev n E x=some (.int .i64 len))(hy:ev n E y=some (.int .i64 len))
 (ht:P.underlying t=some (.slice e))(hm:BD P e=some m)(hb:Ee P e=some b)(hz:B2 P e=some zv)(hk:len=(k:Nat))(hbytes:b*k<=281474976710656)(h63:k<=9223372036854775807)
 (hc:madeCells zv.cells (k*m)=cs):New P n ds E o (.sl k k) e cs:=by
 intro a w ha;subst hk hc;obtain⟨i,hi,h1,h2,h3⟩:=LJ hm hb hz;subst h1 h2;have:=run_make (P:=P) w t e i zv ht hi h3 .i64 .i64 k k (by omega) (by omega) (by rw[<-Int.natCast_mul];omega) (by omega);simp only[A1g] at this;simp[execOp,ho,ha.ev hx,ha.ev hy,this,Uv.val]
theorem F3(z:Value)(h:z.oneCell'=true)(k:Nat):madeCells z.cells (k*1)=(List.replicate k z).toArray:=by
 have hz:z.cells=#[z]:=by cases z<;>first|rfl|cases h
 rw[hz];apply Array.ext';simp[madeCells,Nat.mod_one,List.map_const']
def Vl(n:Nat)(E:Env):List Operand->Option (List Value)
 | []=>some []
 | x::r=>match ev n E x,Vl n E r with
  | some v,some vs=>some (v::vs)
  | _,_=>none
theorem Sd{a:Act}(ha:DM n ds E a):∀{xs:List Operand} {vs:List Value},Vl n E xs=some vs->xs.map a.eval=vs
 | [],vs,h=>by cases h;rfl
 | x::r,vs,h=>by
  unfold Vl at h;split at h
  .rename_i v vs' h1 h2;cases h;rw[A1M,ha.ev h1,Sd ha h2]
  cases h
def ND(n:Nat)(E:Env):List (Nat×Operand)->Option (List (Nat×Value))
 | []=>some []
 | (k,x)::r=>match ev n E x,ND n E r with
  | some v,some vs=>some ((k,v)::vs)
  | _,_=>none
theorem IB{a:Act}(ha:DM n ds E a):∀{xs:List (Nat×Operand)} {vs:List (Nat×Value)},ND n E xs=some vs->xs.map (fun p=>(p.1,a.eval p.2))=vs
 | [],vs,h=>by cases h;rfl
 | (k,x)::r,vs,h=>by
  unfold ND at h;split at h
  .rename_i v vs' h1 h2;cases h;rw[A1M,ha.ev h1,IB ha h2]
  cases h
theorem LA{t:Nat}{ps:Array (Nat×Operand)}{vs:List (Nat×Value)}{cs:Array Value}(ho:o.op= .build t ps)(hp:ND n E ps.toList=some vs)(hb:P.built t vs=some cs):
  EL P n ds E o (.agg cs):=by
 intro a w ha;have h1:(ps.map fun(p:Nat×Operand)=>(p.1,a.eval p.2))=vs.toArray:=by
  apply Array.ext';rw[A3G];exact IB ha hp
 have h2:(ps.map fun(i,x)=>(i,a.eval x))=vs.toArray:=h1;simp only[execOp,ho,h2];simp[run_build w t vs.toArray cs (by simpa using hb)]
theorem PE{t e m len:Nat}{ps:Array (Nat×Operand)}{vs:List (Nat×Value)}{zv:Value}{cs:Array Value}(ho:o.op= .buildSlice t len ps)(hp:ND n E ps.toList=some vs)
 (ht:P.underlying t=some (.slice e))(hm:BD P e=some m)(hz:B2 P e=some zv)(hl:len*m<=16777216)
 (hb:Instr.fill (fun i=>some (i*m,m)) ((Array.range (len*m)).map (zv.cells[·%zv.cells.size]!)) vs=some cs):New P n ds E o (.sl len len) e cs:=by
 intro a w ha;have h1:(ps.map fun(p:Nat×Operand)=>(p.1,a.eval p.2))=vs.toArray:=by
  apply Array.ext';rw[A3G];exact IB ha hp
 have h2:(ps.map fun(i,x)=>(i,a.eval x))=vs.toArray:=h1;simp only[execOp,ho,h2];by_cases h0:len*m=0
 .rw[h0] at hb;have hz0:∀f:Nat->Value,(Array.range 0).map f=#[]:=fun f=>by simp
  rw[hz0] at hb;simp[Instr.buildSlice,run_underlying ht,Cp hm,h0,newRow,Uv.val,hz0,hb]
 have h4:¬(16777216<len*m):=by omega
 simp[Instr.buildSlice,run_underlying ht,Cp hm,h0,h4,Ip hz,newRow,Uv.val,hb]
theorem EC{t:Nat}{ad:Option Addr}{len cap:Nat}{e:Nat}(ho:o.op= .call ⟨.builtin .len,#[x],#[t]⟩)(hx:ev n E x=some (.slice ad len cap))(ht:P.underlying t=some (.slice e)):
  EL P n ds E o (.int .i64 len):=by
 intro a w ha;simp[execOp,ho,resolve,ha.ev hx,invoke,builtin,Builtin.len_,run_underlying ht,goInt]
/-! ### calls -/
theorem PU{a:Act}(ha:DM n ds E a){xs:Array Operand}{vs:List Value}(h:Vl n E xs.toList=some vs):xs.map a.eval=vs.toArray:=by
 apply Array.ext';rw[A3G];exact Sd ha h
structure BY (P:Program) (f:FuncId):Prop where
 go:∃fn,P.funcs[f]? =some fn/\(fn.name == "runtime.NumGoroutine")=false/\fn.body.isNone=false
theorem GG{f:FuncId}{xs:Array Operand}{ts:Array Nat}{vs:List Value}{cap:Array Value}{a:Act}{w:World}(hf:BY P f)(ho:o.op= .call ⟨.value x,xs,ts⟩)(ha:DM n ds E a)
 (hx:ev n E x=some (.func (.func f) #[] cap))(hxs:Vl n E xs.toList=some vs):(execOp a.eval o).run P w= .ok (.enter f (vs.toArray++cap)) w:=by
 obtain⟨fn,h1,h2,h3⟩:=hf.go;simp only[execOp,ho,resolve,PU ha hxs,ha.ev hx];have h4:¬fn.name = "runtime.NumGoroutine" := by simpa using h2
 have h5:¬fn.body=none:=fun e=>by rw[e] at h3;cases h3
 simp[Deferred.ofValue,invoke,callFunc,h1,h4,h5]
theorem AH{f:FuncId}{xs:Array Operand}{ts:Array Nat}{vs:List Value}{cap:Array Value}{C:Value->List Chunk->Prop}(hf:BY P f)(ho:o.op= .call ⟨.value x,xs,ts⟩)
 (hx:ev n E x=some (.func (.func f) #[] cap))(hxs:Vl n E xs.toList=some vs)(hcon:∀w,AR w0 K w L->Calls P f (vs.toArray++cap) w (Ret w [] C)):A0o P w0 K n ds E L o C:=by
 intro a w ha hw;unfold B1;rw[GG hf ho ha hx hxs];refine Calls.mono (hcon w hw) ?_;rintro e w' ⟨v,L',he,hC,hO⟩;exact⟨v,he,L',hC,hO⟩
theorem BT{f:FuncId}{xs:Array Operand}{ts:Array Nat}{vs:List Value}{cap:Array Value}{C:Value->List Chunk->Prop}{K':List Nat}{Lc F:List Chunk}(hf:BY P f)(ho:o.op= .call ⟨.value x,xs,ts⟩)
 (hx:ev n E x=some (.func (.func f) #[] cap))(hxs:Vl n E xs.toList=some vs)(hL:L.Perm (Lc++F))(hK:∀k,k∈K'->k∈AY Lc)
 (hcon:∀w,AR w0 K w L->Calls P f (vs.toArray++cap) w (Ret w K' C)):SP P w0 K n ds E L o (fun v M=>∃L',C v L'/\M=L'++F):=by
 intro a w ha hw;unfold B1;rw[GG hf ho ha hx hxs];refine Calls.mono (hcon w hw) ?_;rintro e w' ⟨v,L',he,hC,hO⟩;exact⟨v,he,L'++F,⟨L',hC,rfl⟩,AR.frame (hw.perm hL.symm) hO hK⟩
end
end
section
variable[Lo]
theorem Mo{w w':World}{b t m n:Nat}{v:Value}{vs:List Value}(h:w.ownsRow b t m v n vs)(he:∀g,v.ownBlock=some g->w'.heap[g]? =w.heap[g]?):w'.ownsRow b t m v n vs:=by
 refine⟨h.1,?_⟩;rcases h.2 with h2|⟨g,cap,cur,rfl,hb,hg,r⟩
 .exact .inl h2
 exact .inr ⟨g,cap,cur,rfl,hb,by rw[he g rfl];exact hg,r⟩
def Bf(v:Value)(t m:Nat)(vs:List Value):Chunk:=
 ⟨v.ownBlock.toList,fun w=>w.ownsRow 0 t m v (vs.length / m) vs,fun w w' h hh=>Mo hh fun g hg=>h g (by rw[hg];simp)⟩
section
variable{P:Program}{w0:World}{K:List Nat}{n:Nat}{ds:List Deferred}{E:Env}{L F:List Chunk}{o:Oper}{x y z:Operand}{v u:Value}{w:World}
theorem LB{c c':Chunk}(hi:c'.ids=c.ids)(h:∀w,c.holds w->c'.holds w)(hw:AR w0 K w (c::F)):AR w0 K w (c'::F):=by
 have e:AY (c'::F)=AY (c::F):=by simp[hi]
 refine⟨hw.os,hw.tape,hw.output,hw.drawn,hw.size,hw.old,by rw[e];exact hw.nodup,by rw[e];exact hw.fresh,by rw[e];exact hw.lt,fun d hd=>?_⟩;rcases A1H.1 hd with rfl|hd
 .exact h w (hw.holds c (A1m ..))
 exact hw.holds d (A1q _ hd)
theorem Ca{g t m len cap:Nat}{cs:Array Value}{vs:List Value}(hl:vs.length=len*m)(hm:0<m)(hlc:len<=cap)(hcm:cap<=9223372036854775807)(hcs:cs.size=cap*m)(ht:cs.toList.take (len*m)=vs)
 (hw:AR w0 K w (AC g t cs::F)):AR w0 K w (Bf (.slice (some ⟨g,0,none⟩) len cap) t m vs::F):=by
 refine LB (by rfl) (fun w hh=>?_) hw;have hd:vs.length / m=len:=by rw[hl];exact Nat.mul_div_cancel _ hm
 show w.ownsRow 0 t m _ (vs.length / m) vs;rw[hd];exact⟨hl,.inr ⟨g,cap,cs,rfl,A1E _,hh,hlc,by simp only[maxLen];omega,hcs,ht⟩⟩
theorem Ck{t m:Nat}(hw:AR w0 K w F):AR w0 K w (Bf (.slice none 0 0) t m []::F):=by
 have e:AY (Bf (.slice none 0 0) t m []::F)=AY F:=by simp[Bf,Value.ownBlock]
 refine⟨hw.os,hw.tape,hw.output,hw.drawn,hw.size,hw.old,by rw[e];exact hw.nodup,by rw[e];exact hw.fresh,by rw[e];exact hw.lt,fun d hd=>?_⟩;rcases A1H.1 hd with rfl|hd
 .show w.ownsRow 0 t m _ (0 / m) [];rw[Nat.zero_div];exact⟨by simp,.inl ⟨rfl,rfl⟩⟩
 exact hw.holds d hd
theorem DA{t m:Nat}{vs:List Value}(hw:AR w0 K w (Bf v t m vs::F)):
  (v= .slice none 0 0/\vs=[]/\AR w0 K w F)\/
  ∃g len cap sp,v= .slice (some ⟨g,0,none⟩) len cap/\vs.length=len*m/\len<=cap/\cap<=9223372036854775807/\vs.length+sp.length=cap*m/\AR w0 K w (AC g t (vs++sp).toArray::F):=by
 have h:w.ownsRow 0 t m v (vs.length / m) vs:=hw.holds _ (A1m ..);obtain⟨h1,h2⟩:=h;rcases h2 with⟨rfl,h3⟩|⟨g,cap,cur,rfl,_,hg,hnc,hcm,hcs,ht⟩
 .rw[h3,Nat.zero_mul] at h1;exact .inl ⟨rfl,A1s h1,hw.sub (A1k ..)⟩
 refine .inr ⟨g,vs.length / m,cap,cur.toList.drop (vs.length / m*m),rfl,h1,hnc,by simp only[maxLen] at hcm;omega,?_,?_⟩
 .have hcl:cur.toList.length=cap*m:=by simp[hcs]
  rw[A2D,hcl];have:vs.length / m*m<=cap*m:=Nat.mul_le_mul_right _ hnc;omega
 have e:(vs++cur.toList.drop (vs.length / m*m)).toArray=cur:=by
  apply Array.ext';have:=A3s (vs.length / m*m) cur.toList;rw[ht] at this;exact this
 rw[e];have e:AY (AC g t cur::F)=AY (Bf (.slice (some ⟨g,0,none⟩) (vs.length / m) cap) t m vs::F):=by simp[Bf,AC,Value.ownBlock]
 refine⟨hw.os,hw.tape,hw.output,hw.drawn,hw.size,hw.old,by rw[e];exact hw.nodup,by rw[e];exact hw.fresh,by rw[e];exact hw.lt,fun d hd=>?_⟩;rcases A1H.1 hd with rfl|hd
 .exact hg
 exact hw.holds d (A1q _ hd)
def Src(w0:World)(K:List Nat)(L:List Chunk)(y:Value)(k:Nat)(news:List Value):Prop:=
 (∃ad c,y= .slice (some ad) k c/\Jl w0 K L ad news)\/(∃c,y= .slice none 0 c/\k=0/\news=[])
theorem HV{t e ty:Nat}{A:Option Addr}{len cap c m:Nat}(ht:P.underlying t=some (.slice e))(hm:BD P e=some m)(hlc:len<=cap):
  (Builtin.append_ #[t,t] ty #[.slice A len cap,.slice none 0 c]).run P w= .ok (.slice A len cap) w:=by
 have hf:(Builtin.firstCells m 0 (.slice none 0 c)).run P w= .ok #[] w:=run_firstCells_none ..;cases A with
 | none=>simp[Builtin.append_,run_underlying ht,Cp hm,Builtin.lenOf,hlc,hf]
 | some a=>simp[Builtin.append_,run_underlying ht,Cp hm,Builtin.lenOf,hlc,hf,storeCells]
theorem Bt{t e m b k:Nat}{zv yv:Value}{vs news:List Value}(ho:o.op= .call ⟨.builtin .append,#[x,y],#[t,t]⟩)(hx:ev n E x=some v)(hy:ev n E y=some yv)
 (ht:P.underlying t=some (.slice e))(hm:BD P e=some m)(hb:Ee P e=some b)(hz:B2 P e=some zv)(hzs:zv.cells.size=m)(hm0:0<m)(hb0:0<b)
 (hown:∀w,AR w0 K w L->AR w0 K w (Bf v e m vs::F))(hn:Src w0 K L yv k news)(hk:news.length=k*m)(h1:∀u,u∈news->u.oneCell'=true)
 (hfit:(vs.length / m+k)*b<=140737488355328):SP P w0 K n ds E L o (fun v' M=>M=Bf v' e m (vs++news)::F):=by
 intro a w ha hw;obtain⟨i,hi,e1,e2,e3⟩:=LJ hm hb hz;subst e1 e2;have hw':=hown w hw;have hrow:w.ownsRow 0 e i.size v (vs.length / i.size) vs:=hw'.holds _ (A1m ..);obtain⟨hr1,hr2⟩:=hrow;have hle:vs.length / i.size+k<=140737488355328:=by
  have:vs.length / i.size+k<=(vs.length / i.size+k)*i.bytes:=Nat.le_mul_of_pos_right _ hb0;omega
 have hlen:(vs++news).length=(vs.length / i.size+k)*i.size:=by rw[A1V,A3f,<-hr1,hk]
 have hdiv:(vs++news).length / i.size=vs.length / i.size+k:=by rw[hlen];exact Nat.mul_div_cancel _ hm0
 have hrun:∀v' w1,(Builtin.append_ #[t,t] o.type #[v,yv]).run P w= .ok v' w1->AR w0 K w1 (Bf v' e i.size (vs++news)::F)->
   B1 P (execOp a.eval o) w (fun v w'=>∃L',L'=Bf v e i.size (vs++news)::F/\AR w0 K w' L'):=by
  intro v' w1 hr hO;unfold B1;have:(execOp a.eval o).run P w= .ok (.value v') w1:=by
   simp[execOp,ho,resolve,ha.ev hx,ha.ev hy,invoke,builtin,hr]
  rw[this];exact⟨_,rfl,hO⟩
 have hF:AR w0 K w F:=hw'.sub (A1k ..);have hfresh:∀(cap:Nat) (z:List Value),vs.length / i.size+k<=cap->cap<=9223372036854775807->(vs++news++z).length=cap*i.size->
   AR w0 K (w.drew.alloc (.cells (vs++news++z).toArray e)) (Bf (.slice (some ⟨w.heap.size,0,none⟩) (vs.length / i.size+k) cap) e i.size (vs++news)::F):=by
  intro cap z h2 h3 h4;have:=(hF.drew).alloc e (vs++news++z).toArray;refine Ca hlen hm0 h2 h3 (by simpa using h4) ?_ this;simp only[List.toList_toArray,<-hlen];exact A2T
 rcases hn with⟨ad,c,rfl,hnews⟩|⟨c,rfl,rfl,rfl⟩
 .have hnews':=hnews w hw;rcases hr2 with⟨rfl,h0⟩|⟨g,cap,cur,rfl,_,hg,hnc,hcm,hcs,htake⟩
  .have hvs:vs=[]:=A1s (by rw[hr1,h0,Nat.zero_mul]);subst hvs;by_cases hk0:k=0
   .subst hk0;have hn0:news=[]:=A1s (by simpa using hk);subst hn0;refine hrun (.slice none 0 0) w ?_ hw';simp[Builtin.append_,run_underlying ht,sizeOf,typeInfo,hi,Builtin.lenOf,Builtin.firstCells,loadCells,loadCellsFrom]
   have hle':k*i.bytes<=281474976710656:=by simp only[A2H,Nat.zero_div,A2d] at hfit;omega
   have hr:=run_append_nil (P:=P) w t o.type e i zv ht hi e3 ad k c news hk hnews' (by omega) (by simp at hle;omega) hle';refine hrun _ _ hr ?_;have:=hfresh (grownCap w k 0 e) (Builtin.zeroCells zv.cells (grownCap w k 0 e-k)).toList (by simpa using grownCap_ge w k 0 e)
    (by have:=grownCap_le_maxLen w k 0 e (by simp only[maxLen];simp at hle;omega);simp only[maxLen] at this;omega)
    (by
     have h5:=grownCap_ge w k 0 e;simp only[A1N,A1V,A3e,size_zeroCells,hzs,hk,<-A3f]
     congr 1;omega);simp only[A1N,A2H,Nat.zero_div,A2d] at this ⊢;have e5:(news++(Builtin.zeroCells zv.cells (grownCap w k 0 e-k)).toList).toArray=news.toArray++Builtin.zeroCells zv.cells (grownCap w k 0 e-k):=by simp
   rw[e5] at this;exact this
  by_cases hroom:vs.length / i.size+k<=cap
  .have hfit2:vs.length / i.size*i.size+news.length<=cur.size:=by
    rw[hcs,hk,<-A3f];exact Nat.mul_le_mul_right _ hroom
   have hr:=run_append_room (P:=P) w t o.type e i ht hi g (vs.length / i.size) cap cur hg ad k c news hk hnews' h1 hroom hfit2;refine hrun _ _ hr ?_;have hO:=K2 w g cur (cur.toList.take (vs.length / i.size*i.size)++news++cur.toList.drop (vs.length / i.size*i.size+news.length)).toArray e hg;have hO2:AR w0 K _ (AC g e _::F):=AR.frame (Lc:=[Bf (.slice (some ⟨g,0,none⟩) (vs.length / i.size) cap) e i.size vs]) hw' hO
    (fun k hk=>by simp[Bf,Value.ownBlock] at hk ⊢;exact hk);refine Ca hlen hm0 hroom (by simp only[maxLen] at hcm;omega) ?_ ?_ hO2
   .have:vs.length / i.size*i.size<=cur.size:=by omega
    simp only[List.size_toArray,A1V,A3g,A2D,A3e];rw[Nat.min_eq_left this,<-hcs];omega
   simp only[List.toList_toArray,htake];rw[<-hlen];exact A2T
  have hr:=run_append_grow (P:=P) w t o.type e i zv ht hi e3 ⟨g,0,none⟩ (vs.length / i.size) cap vs hr1
   (by
    intro j u hj;rw[Cm,cell_of_row w g _ cur e (0,0) hg];rw[<-htake,A2j] at hj;split at hj
    .simpa using hj
    cases hj) ad k c news hk hnews' (by omega) (by omega) (growslice_fits (by omega) hfit);refine hrun _ _ hr ?_;have:=hfresh (grownCap w (vs.length / i.size+k) cap e) (Builtin.zeroCells zv.cells (grownCap w (vs.length / i.size+k) cap e-(vs.length / i.size+k))).toList (grownCap_ge ..)
   (by have:=grownCap_le_maxLen w (vs.length / i.size+k) cap e (by simp only[maxLen];omega);simp only[maxLen] at this;omega)
   (by
    have h5:=grownCap_ge w (vs.length / i.size+k) cap e;rw[A1V,hlen];simp only[A3e,size_zeroCells,hzs,<-A3f]
    congr 1;omega);have e5:(vs++news++(Builtin.zeroCells zv.cells (grownCap w (vs.length / i.size+k) cap e-(vs.length / i.size+k))).toList).toArray=
    vs.toArray++news.toArray++Builtin.zeroCells zv.cells (grownCap w (vs.length / i.size+k) cap e-(vs.length / i.size+k)):=by apply Array.ext';simp
  rw[e5] at this;exact this
 rw[A1O] at *;rcases hr2 with⟨rfl,h0⟩|⟨g,cap,cur,rfl,_,hg,hnc,hcm,hcs,htake⟩
 .exact hrun _ w (HV ht hm (A1F _)) hw'
 exact hrun _ w (HV ht hm hnc) hw'
end
end
section
variable[Lo]
/-! ### literals -/
def JV(place:Nat->Option (Nat×Nat))(cells:List Value):List (Nat×Value)->Option (List Value)
 | []=>some cells
 | (i,v)::r=>
  match place i with
  | none=>none
  | some (off,size)=>bif Nat.beq v.cells.toList.length size&&Nat.ble (off+v.cells.toList.length) cells.length then
    JV place (cells.take off++(v.cells.toList++cells.drop (off+v.cells.toList.length))) r else none
theorem XP(off:Nat):∀(l:List Value) (k:Nat) (cells:Array Value),off+k+l.length<=cells.size->
  ((l.zipIdx k).foldl (fun(cs:Array Value) (p:Value×Nat)=>cs.setIfInBounds (off+p.2) p.1) cells).toList=cells.toList.take (off+k)++(l++cells.toList.drop (off+k+l.length))
 | [],k,cells,_=>by simp
 | x::l,k,cells,h=>by
  simp only[List.zipIdx_cons,List.foldl_cons];rw[XP off l (k+1) _ (by simp at h ⊢;omega)];have e:=list_seg_step cells.toList (off+k) x l (by simp at h ⊢;omega);simpa [Array.toList_setIfInBounds,A3h] using e
theorem LM{place:Nat->Option (Nat×Nat)}:∀{parts:List (Nat×Value)} {cells:Array Value} {l:List Value},JV place cells.toList parts=some l->Instr.fill place cells parts=some l.toArray
 | [],cells,l,h=>by cases h;rfl
 | (i,v)::r,cells,l,h=>by
  unfold JV at h;unfold Instr.fill;cases hp:place i with
  | none=>rw[hp] at h;cases h
  | some q=>
   obtain⟨off,size⟩:=q;rw[hp] at h;simp only at h ⊢;cases hb:(Nat.beq v.cells.toList.length size&&Nat.ble (off+v.cells.toList.length) cells.toList.length) with
   | false=>rw[hb] at h;cases h
   | true=>
    rw[hb] at h;rw[A1P] at hb;have h1:v.cells.size=size:=by have:=A2v hb.1;simpa using this
    have h2:off+v.cells.size<=cells.size:=by have:=A1f hb.2;simpa using this
    rw[if_neg (by simp only[Bool.or_eq_true,decide_eq_true_eq];omega)];apply LM;have hs:=XP off v.cells.toList 0 cells (by simpa using h2);have e:(v.cells.zipIdx.foldl (fun cs (x:Value×Nat)=>cs.setIfInBounds (off+x.2) x.1) cells)=((v.cells.toList.zipIdx 0).foldl (fun(cs:Array Value) (p:Value×Nat)=>cs.setIfInBounds (off+p.2) p.1) cells):=by
     rw[<-Array.foldl_toList];simp
    rw[e,hs];simpa using h
def Ce(P:Program)(t:TypeId):Option (List (Nat×Nat)×List Value):=
 match P.info? t,P.underlying t with
 | some it,some (.struct fields)=>
  match it.zero,fields.toList.mapM (fun f=>(P.info? f.type).map fun i=>(f.offset,i.size)) with
  | some z,some places=>some (places,z.cells.toList)
  | _,_=>none
 | _,_=>none
theorem ZQ{P:Program}{t:TypeId}{places:List (Nat×Nat)}{z l:List Value}{vs:List (Nat×Value)}(h:Ce P t=some (places,z))(hf:JV (fun(i:Nat)=>places[i]?) z vs=some l):P.built t vs=some l.toArray:=by
 unfold Ce at h;unfold Program.built;split at h
 .rename_i it fields hi hu;rw[hi,hu];simp only;split at h
  .rename_i zz pl hz hp;obtain⟨rfl,rfl⟩:pl=places/\zz.cells.toList=z:=by
    have h2:=Option.some.inj h;exact⟨congrArg Prod.fst h2,congrArg Prod.snd h2⟩
   rw[hz,hp];simp only;have:Instr.fill (fun(i:Nat)=>pl.toArray[i]?) zz.cells vs=some l.toArray:=by
    apply LM;have e:(fun(i:Nat)=>pl.toArray[i]?)=(fun(i:Nat)=>pl[i]?):=by funext i;simp
    rw[e];exact hf
   exact this
  cases h
 cases h
section
variable{P:Program}{ops:Array Oper}{w0:World}{K:List Nat}{n:Nat}{ds:List Deferred}{E:Env}{L F:List Chunk}{o:Oper}{x y z:Operand}{v u:Value}{w:World}{d:Nat}{r:List Oper}{Q:Exit->Act->World->Prop}
theorem Dy{t:Nat}{ps:Array (Nat×Operand)}{vs:List (Nat×Value)}{places:List (Nat×Nat)}{zs l:List Value}{cs:Array Value}(ho:o.op= .build t ps)(hp:ND n E ps.toList=some vs)
 (hb:Ce P t=some (places,zs))(hf:JV (fun(i:Nat)=>places[i]?) zs vs=some l)(hc:l.toArray=cs):EL P n ds E o (.agg cs):=by
 subst hc;exact LA ho hp (ZQ hb hf)
theorem Eo{t e m len:Nat}{ps:Array (Nat×Operand)}{vs:List (Nat×Value)}{zv:Value}{l:List Value}{cs:Array Value}(ho:o.op= .buildSlice t len ps)(hp:ND n E ps.toList=some vs)
 (ht:P.underlying t=some (.slice e))(hm:BD P e=some m)(hz:B2 P e=some zv)(hzs:zv.cells.size=m)(hm0:0<m)(hl:len*m<=16777216)
 (hb:JV (fun i=>some (i*m,m)) (List.flatten (List.replicate len zv.cells.toList)) vs=some l)(hc:l.toArray=cs):New P n ds E o (.sl len len) e cs:=by
 subst hc;refine PE ho hp ht hm hz hl (LM ?_);have:((Array.range (len*m)).map (zv.cells[·%zv.cells.size]!)).toList=List.flatten (List.replicate len zv.cells.toList):=by
  rw[A3G];have hs:zv.cells.toList.length=m:=by simp[hzs]
  clear hb hl hp ho
  induction len with
  | zero=>simp
  | succ k ih=>
   have e1:(Array.range ((k+1)*m)).toList=List.range (k*m+m):=by simp[A3i]
   rw[e1,List.range_add,A1Y,List.replicate_succ'];simp only[Array.toList_range] at ih;rw[ih,List.flatten_append]
   congr 1
   simp only[List.flatten_cons,List.flatten_nil,A1O,A3H];apply List.ext_getElem
   .simp[hs,hzs]
   intro i h1 h2;simp at h1 h2 ⊢;have:(k*m+i)%zv.cells.size=i:=by rw[hzs,Nat.add_comm,Nat.add_mul_mod_self_right,A2y h1]
   rw[this];simp[h2]
 rw[this];exact hb
/-! ### guards that are told apart -/
theorem UL{a:Act}{d:Nat}(h:DM n ds E a)(hd:E.get d=some v):DM n ds ((d,v)::E) a:=
 h.mono fun t u hu=>by
  rw[B5] at hu;split at hu
  .rename_i e;subst e;cases hu;exact hd
  exact hu
theorem AM(d:Nat){b:Bool}(hd:E.get d=some (.bool b))(h1:b=true->CN P ops w0 K n ds Q r ((d,.bool true)::E) L)(h2:b=false->CN P ops w0 K n ds Q r ((d,.bool false)::E) L):
  CN P ops w0 K n ds Q r E L:=by
 intro a w ha hw;cases b with
 | true=>exact h1 rfl a w (UL ha hd) hw
 | false=>exact h2 rfl a w (UL ha hd) hw
variable{Lf:List Chunk}{cl:List Qy}{A:List Nat}{Qa:Act->World->Prop}{i:Nat}{ri:List Nat}{Ls:List Chunk}{Ln:List (Nat×Chunk)}
theorem BF.dup{l:List Nat}{E:Env}(h:BF P ops w0 K n ds Lf cl A Qa l E Ls Ln){E':Env}(he:∀t,E'.get t=E.get t):BF P ops w0 K n ds Lf cl A Qa l E' Ls Ln:=h.congr he (.refl _)
theorem BF.split(d:Nat){b:Bool}(hd:E.get d=some (.bool b))(h1:b=true->BF P ops w0 K n ds Lf cl A Qa ri ((d,.bool true)::E) Ls Ln)(h2:b=false->BF P ops w0 K n ds Lf cl A Qa ri ((d,.bool false)::E) Ls Ln):
  BF P ops w0 K n ds Lf cl A Qa ri E Ls Ln:=by
 have key:∀t,E.get t=Env.get ((d,.bool b)::E) t:=by
  intro t;rw[B5];split
  .rename_i e;subst e;exact hd
  rfl
 cases b with
 | true=>exact(h1 rfl).dup key
 | false=>exact(h2 rfl).dup key
theorem Bp(ho:ops[i]? =some o)(hc:cl.getD i .q= .v)(hd:o.dst=some d)(hw:want n E ops o=some true)(hv:Val P w0 K n ds E Ls o v)
 (h:BF P ops w0 K n ds Lf cl A Qa ri ((d,v)::E) Ls Ln):BF P ops w0 K n ds Lf cl A Qa (i::ri) E Ls Ln:=
 W7 ho hc hd hw rfl (fun a w ha hw=>hv a w ha (hw.sub (A2M _ _))) h
theorem CQ(ho:ops[i]? =some o)(hc:cl.getD i .q= .r)(hd:o.dst=some d)(hw:want n E ops o=some true){C:Value->List Chunk->Prop}
 (hx:A0o P w0 K n ds E Ls o C)(h:∀v L',C v L'->BF P ops w0 K n ds Lf cl A Qa ri ((d,v)::E) Ls (L'.map (fun c=>(i,c))++Ln)):BF P ops w0 K n ds Lf cl A Qa (i::ri) E Ls Ln:=
 IF ho hc hd hw rfl (fun a w ha hw=>hx a w ha (hw.sub (A2M _ _))) h
theorem AL(hd:o.dst=some d)(hw:want n E ops o=some true){D:Value->Prop}(hx:A0o P w0 K n ds E L o (fun v M=>M=[]/\D v))
 (h:∀v,D v->CN P ops w0 K n ds Q r ((d,v)::E) L):CN P ops w0 K n ds Q (o::r) E L:=
 Bk hd hw hx fun v L' hC=>by obtain⟨rfl,hD⟩:=hC;exact h v hD
theorem BF.rel0(ho:ops[i]? =some o)(hc:cl.getD i .q= .r)(hd:o.dst=some d)(hw:want n E ops o=some true){D:Value->Prop}
 (hx:A0o P w0 K n ds E Ls o (fun v M=>M=[]/\D v))(h:∀v,D v->BF P ops w0 K n ds Lf cl A Qa ri ((d,v)::E) Ls Ln):BF P ops w0 K n ds Lf cl A Qa (i::ri) E Ls Ln:=
 CQ ho hc hd hw hx fun v L' hC=>by obtain⟨rfl,hD⟩:=hC;exact h v hD
theorem BF.gen0(ho:ops[i]? =some o)(hc:cl.getD i .q= .g)(hd:o.dst=some d)(hw:want n E ops o=some true){C:Value->List Chunk->Prop}
 (hx:SP P w0 K n ds E Ls o C)(hl:∀v L',C v L'->∀w,AR w0 K w L'->AR w0 K w Lf)(h:∀v L',C v L'->BF P ops w0 K n ds Lf cl A Qa ri ((d,v)::E) L' []):BF P ops w0 K n ds Lf cl A Qa (i::ri) E Ls []:=
 C5 (V:=Ls) ho hc hd hw rfl hx hl h
theorem AO(ho:ops[i]? =some o)(hc:cl.getD i .q= .g)(hd:o.dst=none)(hw:want n E ops o=some true){L':List Chunk}
 (hx:Sto P w0 K n ds E Ls o L')(hl:∀w,AR w0 K w L'->AR w0 K w Lf)(h:BF P ops w0 K n ds Lf cl A Qa ri E L' []):BF P ops w0 K n ds Lf cl A Qa (i::ri) E Ls []:=
 BF.sto (V:=Ls) ho hc hd hw rfl hx hl h
theorem Bn{c:Operand}{xc yc:Code}(hc:ev n E c=some (.bool true))(h:DC P w0 K n ds Q xc E L):DC P w0 K n ds Q (.cond c xc yc) E L:=DC.cond hc (fun _=>h) (fun e=>by cases e)
theorem BN{c:Operand}{xc yc:Code}(hc:ev n E c=some (.bool false))(h:DC P w0 K n ds Q yc E L):DC P w0 K n ds Q (.cond c xc yc) E L:=DC.cond hc (fun e=>by cases e) (fun _=>h)
theorem AR.self{w0 w:World}{K:List Nat}{L:List Chunk}(h:AR w0 K w L):AR w (AY L) w L:=
 ⟨rfl,rfl,rfl,Lo.refl _,A1F _,fun _ _ _=>rfl,h.nodup,fun g hg=>.inl hg,h.lt,h.holds⟩
/-! ### a slice of ours is looked at -/
theorem CN.open{t m:Nat}{vs:List Value}(h1:v= .slice none 0 0->vs=[]->CN P ops w0 K n ds Q r E F)
 (h2:∀g len cap sp,v= .slice (some ⟨g,0,none⟩) len cap->vs.length=len*m->len<=cap->cap<=9223372036854775807->vs.length+sp.length=cap*m->CN P ops w0 K n ds Q r E (AC g t (vs++sp).toArray::F)):
  CN P ops w0 K n ds Q r E (Bf v t m vs::F):=by
 intro a w ha hw;rcases DA hw with⟨e1,e2,hw'⟩|⟨g,len,cap,sp,e1,e2,e3,e4,e5,hw'⟩
 .exact h1 e1 e2 a w ha hw'
 exact h2 g len cap sp e1 e2 e3 e4 e5 a w ha hw'
theorem DC.open{t m:Nat}{vs:List Value}{c:Code}(h1:v= .slice none 0 0->vs=[]->DC P w0 K n ds Q c E F)
 (h2:∀g len cap sp,v= .slice (some ⟨g,0,none⟩) len cap->vs.length=len*m->len<=cap->cap<=9223372036854775807->vs.length+sp.length=cap*m->DC P w0 K n ds Q c E (AC g t (vs++sp).toArray::F)):
  DC P w0 K n ds Q c E (Bf v t m vs::F):=by
 intro a w ha hw;rcases DA hw with⟨e1,e2,hw'⟩|⟨g,len,cap,sp,e1,e2,e3,e4,e5,hw'⟩
 .exact h1 e1 e2 a w ha hw'
 exact h2 g len cap sp e1 e2 e3 e4 e5 a w ha hw'
theorem Dd.cons'{M:List Chunk}{c c0:Chunk}{L':List Chunk}(i:Nat)(h:M[i]? =some c0)(e:c0=c)(r:Dd (M.eraseIdx i) L'):Dd M (c::L'):=.cons i (e▸h) r
/-! ### joins -/
def Met(w0:World)(K:List Nat)(n:Nat)(ds:List Deferred){ι:Type}(Inv:ι->Prop)(Es:ι->Env)(Ls:ι->List Chunk)(a:Act)(w:World):Prop:=∃j,Inv j/\DM n ds (Es j) a/\AR w0 K w (Ls j)
theorem DC.cut{ι:Type}(Inv:ι->Prop)(Es:ι->Env)(Lc:ι->List Chunk){xc yc:Code}(first:DC P w0 K n ds (Exit.then (Met w0 K n ds Inv Es Lc) Q) xc E L)
 (rest:∀i,Inv i->DC P w0 K n ds Q yc (Es i) (Lc i)):DC P w0 K n ds Q (.seq xc yc) E L:=by
 refine Ai fun a w ha hw=>wp_mono (first a w ha hw) ?_;intro e a w h;cases e with
 | normal=>obtain⟨j,hj,hs,ho⟩:=h;exact rest j hj a w hs ho
 | exit id=>exact h
 | goto l=>exact h
 | ret=>exact h
 | panic ch=>exact h
 | outgrown=>exact h
theorem Be{ι:Type}{Inv:ι->Prop}{Es:ι->Env}{Lc:ι->List Chunk}(j:ι)(hj:Inv j)(hE:Sub E (Es j))(hL:Dd L (Lc j)):Dl w0 K n ds (Exit.then (Met w0 K n ds Inv Es Lc) Q .normal) E L:=
 fun a w ha hO=>⟨j,hj,ha.mono hE.get,hO.pick hL⟩
/-! ### further operations -/
theorem Fu{f:Fn}{first cap:Array Operand}{vs ws:List Value}(ho:o.op= .makeFunc f first cap)(h1:Vl n E first.toList=some ws)(hc:Vl n E cap.toList=some vs):EL P n ds E o (.func f ws.toArray vs.toArray):=by
 intro a w ha;simp[execOp,ho,Instr.makeFunc,PU ha hc,PU ha h1]
theorem Od{t t' e:Nat}{p:Option Addr}(ho:o.op= .binOp .eql t x y t')(hx:ev n E x=some (.pointer p))(hy:ev n E y=some (.pointer none))(ht:P.underlying t=some (.pointer e)):
  EL P n ds E o (.bool p.isNone):=by
 intro a w ha;have h:P.underlying t=some (.pointer (P.pointee t)):=by simp[Program.pointee,ht]
 simp[execOp,ho,ha.ev hx,ha.ev hy,eqGuard_at_pointer,run_eql_pointer_nil w t p h]
theorem We{t t' e:Nat}{p:Option Addr}(ho:o.op= .binOp .neq t x y t')(hx:ev n E x=some (.pointer p))(hy:ev n E y=some (.pointer none))(ht:P.underlying t=some (.pointer e)):
  EL P n ds E o (.bool (!p.isNone)):=by
 intro a w ha;have h:P.underlying t=some (.pointer (P.pointee t)):=by simp[Program.pointee,ht]
 simp[execOp,ho,ha.ev hx,ha.ev hy,eqGuard_at_pointer,run_neq_pointer_nil w t p h]
theorem Hb{t t':Nat}{b c:Bool}(ho:o.op= .binOp .eql t x y t')(hx:ev n E x=some (.bool b))(hy:ev n E y=some (.bool c))(ht:P.underlying t=some .bool):EL P n ds E o (.bool (b==c)):=by
 intro a w ha;simp[execOp,ho,ha.ev hx,ha.ev hy,eqGuard_at_bool,run_eql_bool w t b c ht]
theorem Pq{t t':Nat}{i:Int}(ho:o.op= .binOp .xor t x y t')(hx:ev n E x=some (.int .i64 i))(hy:ev n E y=some (.int .i64 1))(hi:0<=i/\i<=9223372036854775807):
  EL P n ds E o (.int .i64 (if i%2=0 then i+1 else i-1)):=by
 refine Ff (r:=0) ho hx hy fun w=>?_;have h:(binOp .xor t (.int .i64 i) (.int .i64 1))=Op.intBits .xor .i64 i 1:=binOp_xor ..;rw[h];obtain⟨k,rfl⟩:=A1n hi.1;have hk:k<2^63:=by have:=hi.2;omega
 have e1:BitVec.ofInt 64 (k:Int)=BitVec.ofNat 64 k:=by simp
 have e2:(BitVec.ofNat 64 k ^^^ BitVec.ofInt 64 1).toNat=k ^^^ 1:=by
  rw[BitVec.toNat_xor];have:(BitVec.ofInt 64 1).toNat=1:=by decide
  rw[this,BitVec.toNat_ofNat,A2y (by omega)]
 have e3:((k ^^^ 1:Nat):Int)=(if(k:Int)%2=0 then(k:Int)+1 else(k:Int)-1):=by
  have h1:(k ^^^ 1) / 2=k / 2:=by rw[Nat.xor_div_two];simp
  have h2:((k ^^^ 1)%2=1)↔¬((k%2=1)↔(1%2=1)):=Nat.xor_mod_two_eq_one;by_cases h3:k%2=1
  .have h4:¬((k ^^^ 1)%2=1):=fun h5=>(h2.1 h5) ⟨fun _=>rfl,fun _=>h3⟩;rw[if_neg (by omega)];omega
  have h4:(k ^^^ 1)%2=1:=h2.2 fun h5=>h3 (h5.2 rfl);rw[if_pos (by omega)];omega
 have e4:(Op.intBits .xor .i64 (k:Int) 1).run P w= .ok (.int .i64 (IntKind.i64.wrap ((BitVec.ofInt 64 (k:Int) ^^^ BitVec.ofInt 64 1).toNat:Int))) w:=rfl;rw[e4,e1,e2,DY (i:=((k ^^^ 1:Nat):Int)) (by rw[e3];split<;>omega),e3]
theorem Rk{ts:Array Nat}{i j:Int}(ho:o.op= .call ⟨.builtin .max,#[x,y],ts⟩)(hx:ev n E x=some (.int .i64 i))(hy:ev n E y=some (.int .i64 j)):EL P n ds E o (.int .i64 (max i j)):=by
 intro a w ha;have:(if j>i then j else i)=max i j:=by split<;>omega
 simp[execOp,ho,resolve,ha.ev hx,ha.ev hy,invoke,builtin,Builtin.max_,Builtin.max2];omega
theorem Ob{ts:Array Nat}{i j:Int}(ho:o.op= .call ⟨.builtin .min,#[x,y],ts⟩)(hx:ev n E x=some (.int .i64 i))(hy:ev n E y=some (.int .i64 j)):EL P n ds E o (.int .i64 (min i j)):=by
 intro a w ha;simp[execOp,ho,resolve,ha.ev hx,ha.ev hy,invoke,builtin,Builtin.min_,Builtin.min2];omega
theorem Tz{t t':Nat}{p q:List Nat}{f:Fn}{c1 c2:Array Value}{i1 i2 i3}(ho:o.op= .binOp .eql t x y t')(hx:ev n E x=some (.func f c1 c2))(hy:ev n E y=some .nilFunc)(ht:P.underlying t=some (.func i1 i2 i3)):
  EL P n ds E o (.bool false):=by
 intro a w ha;have h1:(Op.equal t (.func f c1 c2) .nilFunc).run P w= .ok false w:=by
  have h0:∀m,(Op.equalIn (m+1) t (.func f c1 c2) .nilFunc).run P w= .ok false w:=fun m=>by
   unfold Op.equalIn;rw[Sem.run_bind,run_underlying ht w]
   rfl
  exact h0 9999
 have h2:(binOp .eql t (.func f c1 c2) .nilFunc).run P w= .ok (.bool false) w:=by
  simp only[binOp];simp[h1]
 simp[execOp,ho,ha.ev hx,ha.ev hy,eqGuard_at_func,h2]
end
section
variable{P:Program}{ops:Array Oper}{w0 w:World}{K:List Nat}{n:Nat}{ds:List Deferred}{E:Env}{L F:List Chunk}{o:Oper}{x y z:Operand}{v u:Value}
theorem HB{Lf:List Chunk}{cl:List Qy}{A:List Nat}{Qa:Act->World->Prop}{i:Nat}{ri:List Nat}{Ls:List Chunk}{Ln:List (Nat×Chunk)}{V:List Chunk}{d:Nat}
 (ho:ops[i]? =some o)(hc:cl.getD i .q= .r)(hd:o.dst=some d)(hw:want n E ops o=some true)(hV:HN A i Ln++Ls=V){D:Value->Prop}
 (hx:A0o P w0 K n ds E V o (fun v M=>M=[]/\D v))(h:∀v,D v->BF P ops w0 K n ds Lf cl A Qa ri ((d,v)::E) Ls Ln):BF P ops w0 K n ds Lf cl A Qa (i::ri) E Ls Ln:=
 IF ho hc hd hw hV hx fun v L' hC=>by obtain⟨rfl,hD⟩:=hC;exact h v hD
end
end
section
variable[Lo]
abbrev Iv(z:Int):Value:=.int .i64 z
abbrev Nv:Value:=.slice none 0 0
abbrev So(g:Nat):Option Addr:=some ⟨g,0,none⟩
abbrev Pv(g:Nat):Value:=.pointer (some ⟨g,0,none⟩)
abbrev Sv(g n:Nat):Value:=.slice (some ⟨g,0,none⟩) n n
section
variable{w0:World}{K:List Nat}{L L':List Chunk}{c:Chunk}
theorem PK(hp:Dd L L'):∀w,AR w0 K w L->AR w0 K w L':=fun w h=>h.pick hp
theorem PN:∀w,AR w0 K w L->AR w0 K w []:=fun w h=>h.pick .nil
theorem Bg(r:Dd (L.eraseIdx 0) L')(h:L[0]? =some c:=by exact rfl):Dd L (c::L'):=.cons 0 h r
theorem BC(r:Dd (L.eraseIdx 1) L')(h:L[1]? =some c:=by exact rfl):Dd L (c::L'):=.cons 1 h r
theorem CY(r:Dd (L.eraseIdx 2) L')(h:L[2]? =some c:=by exact rfl):Dd L (c::L'):=.cons 2 h r
theorem Et(r:Dd (L.eraseIdx 3) L')(h:L[3]? =some c:=by exact rfl):Dd L (c::L'):=.cons 3 h r
theorem LQ(r:Dd (L.eraseIdx 4) L')(h:L[4]? =some c:=by exact rfl):Dd L (c::L'):=.cons 4 h r
theorem Xn(r:Dd (L.eraseIdx 5) L')(h:L[5]? =some c:=by exact rfl):Dd L (c::L'):=.cons 5 h r
theorem W6(r:Dd (L.eraseIdx 6) L')(h:L[6]? =some c:=by exact rfl):Dd L (c::L'):=.cons 6 h r
theorem Jp7(r:Dd (L.eraseIdx 7) L')(h:L[7]? =some c:=by exact rfl):Dd L (c::L'):=.cons 7 h r
theorem Jp8(r:Dd (L.eraseIdx 8) L')(h:L[8]? =some c:=by exact rfl):Dd L (c::L'):=.cons 8 h r
theorem Jp9(r:Dd (L.eraseIdx 9) L')(h:L[9]? =some c:=by exact rfl):Dd L (c::L'):=.cons 9 h r
end
section
variable{P:Program}{ops:Array Oper}{w0 w:World}{K:List Nat}{n:Nat}{ds:List Deferred}{E:Env}{L:List Chunk}{Q:Exit->Act->World->Prop}{o:Oper}{r:List Oper}{v u:Value}{d:Nat}{x y z:Operand}
theorem Zm(h:CN P ops w0 K n ds Q r ((d,v)::E) L)(hd:o.dst=some d:=by exact rfl)(hw:want n E ops o=some true:=by exact rfl)(ho:o.op= .move x:=by exact rfl)(hx:ev n E x=some v:=by exact rfl):CN P ops w0 K n ds Q (o::r) E L:=CN.pur hd hw (H2 ho hx) h
theorem Za(h:CN P ops w0 K n ds Q r ((d,v)::E) L)(hd:o.dst=some d:=by exact rfl)(hw:want n E ops o=some true:=by exact rfl)(ho:o.op= .assign x:=by exact rfl)(hx:ev n E x=some v:=by exact rfl):CN P ops w0 K n ds Q (o::r) E L:=CN.pur hd hw (Rm ho hx) h
theorem Zl{t:TypeId}{ad:Addr}(ht:CG P t=some false)(h:CN P ops w0 K n ds Q r ((d,v)::E) L)(hd:o.dst=some d:=by exact rfl)(hw:want n E ops o=some true:=by exact rfl)(ho:o.op= .load t x:=by exact rfl)(hx:ev n E x=some (.pointer (some ad)):=by exact rfl)
 (hh:Ll w0 K L ad v:=by first|exact B0 rfl|exact A7 (by assumption)):CN P ops w0 K n ds Q (o::r) E L:=CN.val hd hw (AG ho hx ht hh) h
theorem Zi{t e len cap:Nat}{ad ad':Addr}{k:IntKind}{i:Int}(ht:P.underlying t=some (.slice e))(hm:BD P e=some 1)(h:CN P ops w0 K n ds Q r ((d,.pointer (some ad'))::E) L)(hd:o.dst=some d:=by exact rfl)(hw:want n E ops o=some true:=by exact rfl)
 (ho:o.op= .indexAddr t x y:=by exact rfl)(hx:ev n E x=some (.slice (some ad) len cap):=by exact rfl)(hy:ev n E y=some (.int k i):=by exact rfl)(h0:0<=i:=by omega)(h1:i<len:=by omega)(he:ad.add i.toNat=ad':=by first|exact AX _ _|exact Cm _ _ _|rfl):
  CN P ops w0 K n ds Q (o::r) E L:=CN.pur hd hw (B4 ho hx hy ht hm h0 h1 he) h
theorem Zp{t t':TypeId}{i j:Int}(h:CN P ops w0 K n ds Q r ((d,.int .i64 (i+j))::E) L)(hd:o.dst=some d:=by exact rfl)(hw:want n E ops o=some true:=by exact rfl)(ho:o.op= .binOp .add t x y t':=by exact rfl)
 (hx:ev n E x=some (.int .i64 i):=by exact rfl)(hy:ev n E y=some (.int .i64 j):=by exact rfl)(hb: -9223372036854775808<=i+j/\i+j<=9223372036854775807:=by omega):CN P ops w0 K n ds Q (o::r) E L:=CN.pur hd hw (UU ho hx hy hb) h
theorem Ze{k:Nat}{vs:Array Value}(h:CN P ops w0 K n ds Q r ((d,v)::E) L)(hd:o.dst=some d:=by exact rfl)(hw:want n E ops o=some true:=by exact rfl)(ho:o.op= .extract x k:=by exact rfl)(hx:ev n E x=some (.tuple vs):=by exact rfl)(hk:vs[k]? =some v:=by exact rfl):
  CN P ops w0 K n ds Q (o::r) E L:=CN.pur hd hw (Oc ho hx hk) h
theorem Zg(h:CN P ops w0 K n ds Q r ((d,v)::E) L)(hd:o.dst=some d:=by exact rfl)(hw:want n E ops o=some true:=by exact rfl)(ho:o.op= .pick x y z:=by exact rfl)(hx:ev n E x=some (.bool false):=by exact rfl)(hy:ev n E z=some v:=by exact rfl):
  CN P ops w0 K n ds Q (o::r) E L:=CN.pur hd hw (Ri ho hx hy) h
theorem Zc{t t':TypeId}{k:IntKind}{i j:Int}(h:CN P ops w0 K n ds Q r ((d,.bool (decide (i<j)))::E) L)(hd:o.dst=some d:=by exact rfl)(hw:want n E ops o=some true:=by exact rfl)(ho:o.op= .binOp .lss t x y t':=by exact rfl)
 (hx:ev n E x=some (.int k i):=by exact rfl)(hy:ev n E y=some (.int k j):=by exact rfl):CN P ops w0 K n ds Q (o::r) E L:=CN.pur hd hw (p_lss ho hx hy) h
theorem Zx{c:Code}(h:DC P w0 K n ds Q c E L):CN P ops w0 K n ds (Exit.then (c.wp P Q) Q) [] E L:=Az (Aa h)
theorem Zs{l:List Oper}{id:Nat}{c:Code}(h:CN P l.toArray w0 K n ds (Exit.then (c.wp P Q) Q) l E L):DC P w0 K n ds Q (.seq (.region id l.toArray false) c) E L:=Ai (Ak h)
theorem Zo(hv:EL P n ds E o v)(h:CN P ops w0 K n ds Q r ((d,v)::E) L)(hd:o.dst=some d:=by exact rfl)(hw:want n E ops o=some true:=by exact rfl):CN P ops w0 K n ds Q (o::r) E L:=CN.pur hd hw hv h
theorem Zu(hv:Val P w0 K n ds E L o v)(h:CN P ops w0 K n ds Q r ((d,v)::E) L)(hd:o.dst=some d:=by exact rfl)(hw:want n E ops o=some true:=by exact rfl):CN P ops w0 K n ds Q (o::r) E L:=CN.val hd hw hv h
theorem Zw{nv:Uv}{t:Nat}{cs:Array Value}(hx:New P n ds E o nv t cs)(h:∀g,CN P ops w0 K n ds Q r ((d,nv.val g)::E) (AC g t cs::L))(hd:o.dst=some d:=by exact rfl)(hw:want n E ops o=some true:=by exact rfl):CN P ops w0 K n ds Q (o::r) E L:=CN.new hd hw hx h
theorem Zy{L':List Chunk}(hx:Sto P w0 K n ds E L o L')(h:CN P ops w0 K n ds Q r E L')(hd:o.dst=none:=by exact rfl)(hw:want n E ops o=some true:=by exact rfl):CN P ops w0 K n ds Q (o::r) E L:=CN.sto hd hw hx h
theorem Zd{c:Operand}{x y:Code}{b:Bool}(h1:b=true->DC P w0 K n ds Q x E L)(h2:b=false->DC P w0 K n ds Q y E L)(hc:ev n E c=some (.bool b):=by exact rfl):DC P w0 K n ds Q (.cond c x y) E L:=DC.cond hc h1 h2
theorem J{α:Sort _}{a:α}:a=a:=Eq.refl a
theorem ZE{t t':TypeId}{k:IntKind}{i j:Int}(h:CN P ops w0 K n ds Q r ((d,.bool (decide (i=j)))::E) L)(hd:o.dst=some d:=by exact rfl)(hw:want n E ops o=some true:=by exact rfl)(ho:o.op= .binOp .eql t x y t':=by exact rfl)(hx:ev n E x=some (.int k i):=by exact rfl)(hy:ev n E y=some (.int k j):=by exact rfl):CN P ops w0 K n ds Q (o::r) E L:=CN.pur hd hw (p_eql ho hx hy) h
theorem ZA{t:Nat}{zv:Value}{cs:Array Value}(hz:B2 P t=some zv)(h:∀g,CN P ops w0 K n ds Q r ((d,Uv.ptr.val g)::E) (AC g t cs::L))(hd:o.dst=some d:=by exact rfl)(hw:want n E ops o=some true:=by exact rfl)(ho:o.op= .alloc t:=by exact rfl)(hc:zv.cells=cs:=by exact rfl):CN P ops w0 K n ds Q (o::r) E L:=CN.new hd hw (DL ho hz hc) h
theorem zq{α β:Type}(f:α->β):(∀a l,List.map f (a::l)=f a::List.map f l)/\List.map f []=[]:=⟨fun _ _=>rfl,rfl⟩
theorem zr{α:Type}:(∀l:List α,[]++l=l)/\(∀(a:α) l m,(a::l)++m=a::(l++m))/\(∀l:List α,l++[]=l):=⟨fun _=>rfl,fun _ _ _=>rfl,A1O⟩
theorem zs{α:Type}:(∀(a:α) l m,(a::l)++m=a::(l++m))/\(∀l:List α,[]++l=l):=⟨fun _ _ _=>rfl,fun _=>rfl⟩
theorem Zh{fn:Func}{t:Tmp}{C:Value->List Chunk->Prop}{e:Exit}(hC:C v L)(he:e= .ret\/e= .normal:=by exact .inl rfl)(hr:fn.results=#[.tmp t]:=by exact rfl)(hv:ev n E (.tmp t)=some v:=by exact rfl):Dl w0 K n [] (bodyPost P fn (Ret w0 K C) e) E L:=A0g he hr hv hC
end
section
variable{P:Program}{ops:Array Oper}{w0 w:World}{K:List Nat}{n:Nat}{ds:List Deferred}{E:Env}{o:Oper}{v u:Value}{d:Nat}{x y z:Operand}{Lf:List Chunk}{cl:List Qy}{A:List Nat}{Qa:Act->World->Prop}{i:Nat}{ri:List Nat}{Ls:List Chunk}{Ln:List (Nat×Chunk)}
theorem Ym(h:BF P ops w0 K n ds Lf cl A Qa ri ((d,v)::E) Ls Ln)(ho':ops[i]? =some o:=by exact rfl)(hd:o.dst=some d:=by exact rfl)(hw:want n E ops o=some true:=by exact rfl)(ho:o.op= .move x:=by exact rfl)(hx:ev n E x=some v:=by exact rfl):
  BF P ops w0 K n ds Lf cl A Qa (i::ri) E Ls Ln:=BF.pur ho' hd hw (H2 ho hx) h
theorem Yl{t:TypeId}{ad:Addr}(ht:CG P t=some false)(h:BF P ops w0 K n ds Lf cl A Qa ri ((d,v)::E) Ls Ln)(ho':ops[i]? =some o:=by exact rfl)(hc:cl.getD i .q= .v:=by exact rfl)(hd:o.dst=some d:=by exact rfl)(hw:want n E ops o=some true:=by exact rfl)(ho:o.op= .load t x:=by exact rfl)
 (hx:ev n E x=some (.pointer (some ad)):=by exact rfl)(hh:Ll w0 K Ls ad v:=by first|exact B0 rfl|exact A7 (by assumption)):BF P ops w0 K n ds Lf cl A Qa (i::ri) E Ls Ln:=Bp ho' hc hd hw (AG ho hx ht hh) h
theorem Yf{s k off ft:Nat}{ad ad':Addr}(hf:Ic P s k=some (off,ft))(h:BF P ops w0 K n ds Lf cl A Qa ri ((d,.pointer (some ad'))::E) Ls Ln)(ho':ops[i]? =some o:=by exact rfl)(hd:o.dst=some d:=by exact rfl)(hw:want n E ops o=some true:=by exact rfl)
 (ho:o.op= .fieldAddr s x k:=by exact rfl)(hx:ev n E x=some (.pointer (some ad)):=by exact rfl)(he:ad.add off=ad':=by first|exact AX _ _|exact Cm _ _ _|rfl):BF P ops w0 K n ds Lf cl A Qa (i::ri) E Ls Ln:=BF.pur ho' hd hw (Ps ho hx hf he) h
theorem Yi{t e len cap:Nat}{ad ad':Addr}{k:IntKind}{z:Int}(ht:P.underlying t=some (.slice e))(hm:BD P e=some 1)(h:BF P ops w0 K n ds Lf cl A Qa ri ((d,.pointer (some ad'))::E) Ls Ln)(ho':ops[i]? =some o:=by exact rfl)(hd:o.dst=some d:=by exact rfl)(hw:want n E ops o=some true:=by exact rfl)(ho:o.op= .indexAddr t x y:=by exact rfl)(hx:ev n E x=some (.slice (some ad) len cap):=by exact rfl)(hy:ev n E y=some (.int k z):=by exact rfl)(h0:0<=z:=by omega)(h1:z<len:=by omega)(he:ad.add z.toNat=ad':=by first|exact AX _ _|exact Cm _ _ _|rfl):BF P ops w0 K n ds Lf cl A Qa (i::ri) E Ls Ln:=BF.pur ho' hd hw (B4 ho hx hy ht hm h0 h1 he) h
theorem Yo(ho:ops[i]? =some o)(hv:EL P n ds E o v)(h:BF P ops w0 K n ds Lf cl A Qa ri ((d,v)::E) Ls Ln)(hd:o.dst=some d:=by exact rfl)(hw:want n E ops o=some true:=by exact rfl):BF P ops w0 K n ds Lf cl A Qa (i::ri) E Ls Ln:=BF.pur ho hd hw hv h
end
end
section
variable[Lo]
class Tab (P:Program) where
 f:List (Nat×Nat×Nat×Nat)
 u:List (Nat×Nat)
 a:List Nat
 hf:f.all (fun e=>Ic P e.1 e.2.1==some (e.2.2.1,e.2.2.2))=true
 hu:u.all (fun e=>(match P.underlying e.1 with|some (.slice k)=>Nat.beq k e.2|_=>false))=true
 ha:a.all (fun t=>CG P t==some false)=true
 s:List (Nat×Nat)
 hs:s.all (fun e=>BD P e.1==some e.2)=true
 g:List Nat
 hg:g.all (fun t=>CG P t==some true)=true
 mx:P.follows .mixedOrders=true
def tf(s k:Nat):List (Nat×Nat×Nat×Nat)->Option Nat
 | []=>none
 | (a,b,c,_)::r=>bif Nat.beq a s&&Nat.beq b k then some c else tf s k r
def tu(t:Nat):List (Nat×Nat)->Option Nat
 | []=>none
 | (a,b)::r=>bif Nat.beq a t then some b else tu t r
def ta(t:Nat):List Nat->Bool
 | []=>false
 | a::r=>bif Nat.beq a t then true else ta t r
theorem S9{t:Nat}:∀{l:List Nat},ta t l=true->t∈l
 | a::r,h=>by
  unfold ta at h;cases hb:Nat.beq a t
  .rw[hb] at h;exact .tail _ (S9 h)
  rw[A2v hb];exact .head _
theorem S5{t b:Nat}:∀{l:List (Nat×Nat)},tu t l=some b->(t,b)∈l
 | (a,c)::r,h=>by
  unfold tu at h;cases hb:Nat.beq a t
  .rw[hb] at h;exact .tail _ (S5 h)
  rw[hb] at h;cases h;rw[A2v hb];exact .head _
theorem S6{s k c:Nat}:∀{l:List (Nat×Nat×Nat×Nat)},tf s k l=some c->∃q,(s,k,c,q)∈l
 | (a,b,c',q)::r,h=>by
  unfold tf at h;cases hb:Nat.beq a s
  .rw[hb] at h;obtain⟨q,h'⟩:=S6 h;exact⟨q,.tail _ h'⟩
  cases hc:Nat.beq b k
  .rw[hb,hc] at h;obtain⟨q,h'⟩:=S6 h;exact⟨q,.tail _ h'⟩
  rw[hb,hc] at h;cases h;rw[A2v hb,A2v hc];exact⟨q,.head _⟩
section
variable{P:Program}
theorem Tab.sf[T:Tab P]{s k c:Nat}(h:tf s k T.f=some c):∃q,Ic P s k=some (c,q):=by
 obtain⟨q,h'⟩:=S6 h;exact⟨q,by simpa using A2c.1 T.hf _ h'⟩
theorem Qe[T:Tab P]{t e:Nat}(h:tu t T.u=some e):P.underlying t=some (.slice e):=by
 have:=A2c.1 T.hu _ (S5 h);simp only at this;split at this
 .rename_i k hk;rw[hk,A2v this]
 cases this
theorem Qf[T:Tab P]{t:Nat}(h:ta t T.a=true):CG P t=some false:=by
 simpa using A2c.1 T.ha _ (S9 h)
theorem Tab.sg[T:Tab P]{t:Nat}(h:ta t T.g=true):CG P t=some true:=by
 simpa using A2c.1 T.hg _ (S9 h)
theorem KQ[T:Tab P]{t k:Nat}(h:tu t T.s=some k):BD P t=some k:=by
 simpa using A2c.1 T.hs _ (S5 h)
end
def A0Z:Bool->Addr->Nat->Option Addr
 | true,a,j=>some (a.add j)
 | _,⟨g,i,none⟩,j=>bif Nat.beq i 0 then some ⟨g,j,none⟩ else some ⟨g,i+j,none⟩
 | _,_,_=>none
theorem U4{z:Bool}{a b:Addr}{j:Nat}(h:A0Z z a j=some b):a.add j=b:=by
 cases z with
 | true=>cases h;rfl
 | false=>
 obtain⟨g,i,s⟩:=a;cases s with
 | some s=>cases h
 | none=>
  unfold A0Z at h;simp only at h;cases hb:Nat.beq i 0
  .rw[hb] at h;cases h;exact Cm ..
  rw[hb] at h;cases h;rw[A2v hb];exact AX ..
def iv(n:Nat)(E:Env)(x:Operand):Option Int:=
 match ev n E x with
 | some (.int .i64 i)=>some i
 | _=>none
theorem YK{n:Nat}{E:Env}{x:Operand}{i:Int}(h:iv n E x=some i):ev n E x=some (.int .i64 i):=by
 unfold iv at h;split at h
 .rename_i hx;cases h;exact hx
 cases h
def bo(q:Prop)(i j:Int):BinOp->Option (Value×Prop)
 | .lss=>some (.bool (decide (i<j)),q)
 | .leq=>some (.bool (decide (i<=j)),q)
 | .gtr=>some (.bool (decide (j<i)),q)
 | .geq=>some (.bool (decide (j<=i)),q)
 | .eql=>some (.bool (decide (i=j)),q)
 | .neq=>some (.bool (decide (i≠j)),q)
 | .add=>some (.int .i64 (i+j),q/\ -9223372036854775808<=i+j/\i+j<=9223372036854775807)
 | .sub=>some (.int .i64 (i-j),q/\ -9223372036854775808<=i-j/\i-j<=9223372036854775807)
 | _=>none
def pv(P:Program)[T:Tab P](z:Bool)(n:Nat)(E:Env)(q:Prop):Op->Option (Value×Prop)
 | .move x=>match ev n E x with
  | some v=>some (v,q)
  | none=>none
 | .assign x=>match ev n E x with
  | some v=>some (v,q)
  | none=>none
 | .extract x k=>match ev n E x with
  | some (.tuple vs)=>match TQ vs.toList k with
   | some v=>some (v,q)
   | none=>none
  | _=>none
 | .nilCheck x=>match ev n E x with
  | some (.pointer (some a))=>some (.pointer (some a),q)
  | _=>none
 | .pick x y y'=>match ev n E x with
  | some (.bool true)=>match ev n E y with
   | some v=>some (v,q)
   | none=>none
  | some (.bool false)=>match ev n E y' with
   | some v=>some (v,q)
   | none=>none
  | _=>none
 | .unOp .not _ x=>match ev n E x with
  | some (.bool b)=>some (.bool (!b),q)
  | _=>none
 | .fieldAddr s x k=>match ev n E x with
  | some (.pointer (some a))=>match tf s k T.f with
   | some o=>match A0Z z a o with
    | some b=>some (.pointer (some b),q)
    | none=>none
   | none=>none
  | _=>none
 | .indexAddr t x y=>match ev n E x with
  | some (.slice (some a) l _)=>match iv n E y with
   | some i=>match tu t T.u with
    | some e=>match tu e T.s with
     | some 1=>match A0Z z a i.toNat with
      | some b=>some (.pointer (some b),(q/\0<=i)/\i<l)
      | none=>none
     | _=>none
    | none=>none
   | none=>none
  | _=>none
 | .call ⟨.builtin .len,⟨[x]⟩,⟨[t]⟩⟩=>match ev n E x with
  | some (.slice _ l _)=>match tu t T.u with
   | some _=>some (.int .i64 l,q)
   | none=>none
  | _=>none
 | .binOp b _ x y _=>match iv n E x with
  | some i=>match iv n E y with
   | some j=>bo q i j b
   | none=>none
  | none=>none
 | _=>none
section
variable{P:Program}[T:Tab P]{ops:Array Oper}{w0 w:World}{K:List Nat}{n:Nat}{ds:List Deferred}{E E' E1:Env}{L:List Chunk}{Q:Exit->Act->World->Prop}{o:Oper}{r r' r1:List Oper}{v:Value}{d k t:Nat}{x:Operand}{q q':Prop}{l:List Nat}{ad:Addr}{z:Bool}
theorem pv_ok{op:Op}(ho:o.op=op)(h:pv P z n E q op=some (v,q'))(hq:q'):q/\EL P n ds E o v:=by
 unfold pv at h;split at h
 .split at h
  .rename_i hx;cases h;exact⟨hq,H2 ho hx⟩
  cases h
 .split at h
  .rename_i hx;cases h;exact⟨hq,Rm ho hx⟩
  cases h
 .split at h
  .rename_i hx;split at h
   .rename_i hk;cases h;exact⟨hq,Oc ho hx (by rw[PG] at hk;simpa using hk)⟩
   cases h
  cases h
 .split at h
  .rename_i hx;cases h;exact⟨hq,p_nil ho hx⟩
  cases h
 .split at h
  .rename_i hx;split at h
   .rename_i hy;cases h;exact⟨hq,Yk ho hx hy⟩
   cases h
  .rename_i hx;split at h
   .rename_i hy;cases h;exact⟨hq,Ri ho hx hy⟩
   cases h
  cases h
 .split at h
  .rename_i hx;cases h;exact⟨hq,Yn ho hx⟩
  cases h
 .split at h
  .rename_i hx;split at h
   .rename_i hf;split at h
    .rename_i hn;cases h;obtain⟨_,hf⟩:=Tab.sf hf;exact⟨hq,Ps ho hx hf (U4 hn)⟩
    cases h
   cases h
  cases h
 .split at h
  .rename_i hx;split at h
   .rename_i hy;split at h
    .rename_i hu;split at h
     .rename_i hz;split at h
      .rename_i hn;cases h;exact⟨hq.1.1,B4 ho hx (YK hy) (Qe hu) (KQ hz) hq.1.2 hq.2 (U4 hn)⟩
      cases h
     cases h
    cases h
   cases h
  cases h
 .split at h
  .rename_i hx;split at h
   .rename_i hu;cases h;exact⟨hq,EC ho hx (Qe hu)⟩
   cases h
  cases h
 .split at h
  .rename_i hx;split at h
   .rename_i hy;replace hx:=YK hx;replace hy:=YK hy;unfold bo at h;split at h<;>cases h
    .exact⟨hq,p_lss ho hx hy⟩
    .exact⟨hq,p_leq ho hx hy⟩
    .exact⟨hq,p_gtr ho hx hy⟩
    .exact⟨hq,p_geq ho hx hy⟩
    .exact⟨hq,p_eql ho hx hy⟩
    .exact⟨hq,p_neq ho hx hy⟩
    .exact⟨hq.1,UU ho hx hy hq.2⟩
    exact⟨hq.1,p_sub ho hx hy hq.2⟩
   cases h
  cases h
 cases h
def sv(P:Program)[T:Tab P](z:Bool)(ops:Array Oper)(n:Nat)(E:Env)(q:Prop)(o:Oper):Option (Env×Prop):=
 match want n E ops o with
 | some false=>match o.dst with
  | some d=>some ((d,undef)::E,q)
  | none=>some (E,q)
 | some true=>match o.dst with
  | some d=>match pv P z n E q o.op with
   | some (v,q)=>some ((d,v)::E,q)
   | none=>none
  | none=>none
 | none=>none
def run(P:Program)[T:Tab P](z:Bool)(ops:Array Oper)(n:Nat):Nat->Env->Prop->List Oper->Option (Env×List Oper×Prop)
 | 0,E,q,r=>some (E,r,q)
 | k+1,E,q,o::r=>match sv P z ops n E q o with
  | some (E,q)=>run P z ops n k E q r
  | none=>none
 | _+1,_,_,[]=>none
def XU(P:Program)[T:Tab P](z:Bool)(ops:Array Oper)(n:Nat):Nat->Env->Prop->List Nat->Option (Env×List Nat×Prop)
 | 0,E,q,r=>some (E,r,q)
 | k+1,E,q,i::r=>match ops[i]? with
  | some o=>match sv P z ops n E q o with
   | some (E,q)=>XU P z ops n k E q r
   | none=>none
  | none=>none
 | _+1,_,_,[]=>none
theorem sv_ok(h:sv P z ops n E q o=some (E',q'))(hq:q'):q/\(CN P ops w0 K n ds Q r E' L->CN P ops w0 K n ds Q (o::r) E L):=by
 unfold sv at h;split at h
 .rename_i hw;split at h
  .rename_i hd;cases h;exact⟨hq,CN.skip hd hw⟩
  rename_i hd;cases h;exact⟨hq,CN.skip0 hd hw⟩
 .rename_i hw;split at h
  .rename_i hd;split at h
   .rename_i hp;cases h;obtain⟨h1,h2⟩:=pv_ok rfl hp hq;exact⟨h1,CN.pur hd hw h2⟩
   cases h
  cases h
 cases h
theorem Ti:∀{k E q r},run P z ops n k E q r=some (E',r',q')->q'->q/\(CN P ops w0 K n ds Q r' E' L->CN P ops w0 K n ds Q r E L)
 | 0,E,q,r,h,hq=>by cases h;exact⟨hq,id⟩
 | k+1,E,q,[],h,hq=>by cases h
 | k+1,E,q,o::r,h,hq=>by
  unfold run at h;split at h
  .rename_i hs;obtain⟨h1,h2⟩:=Ti h hq;obtain⟨h3,h4⟩:=sv_ok hs h1;exact⟨h3,fun x=>h4 (h2 x)⟩
  cases h
def Rn(P:Program)(ops:Array Oper)(w0:World)(K:List Nat)(n:Nat)(ds:List Deferred)(Q:Exit->Act->World->Prop)(L:List Chunk)(l:List Nat)(E:Env)(r:List Oper)(E':Env)(r':List Oper):Prop:=CN P ops w0 K n ds Q r' E' L->CN P ops w0 K n ds Q r E L
theorem RnD(hr:run P z ops n k E True r=some (E',r',q))(hq:q:=by repeat (first|exact trivial|refine⟨?_,by omega⟩)):Rn P ops w0 K n ds Q L [k] E r E' r':=(Ti hr hq).2
theorem RnC{j:Nat}(hr:run P z ops n k E True r=some (E1,o::r1,q))(hd:o.dst=some d)(hw:want n E1 ops o=some true)(ho:o.op= .load t x)(hx:ev n E1 x=some (.pointer (some ad)))(ht:ta t T.a=true)(hq:q:=by repeat (first|exact trivial|refine⟨?_,by omega⟩))(hh:Ll w0 K L ad v:=by first|exact B0 rfl|exact A7 (by assumption))
 (h:Rn P ops w0 K n ds Q L (j::l) ((d,v)::E1) r1 E' r':=by first|exact RnD (z:=false) rfl|exact RnC (z:=false) rfl rfl rfl rfl rfl rfl|exact RnD (z:=true) rfl|exact RnC (z:=true) rfl rfl rfl rfl rfl rfl):Rn P ops w0 K n ds Q L (k::j::l) E r E' r':=fun hs=>(Ti hr hq).2 (CN.val hd hw (AG ho hx (Qf ht) hh) (h hs))
theorem Zz(l:List Nat)(h:CN P ops w0 K n ds Q r' E' L)(hr:Rn P ops w0 K n ds Q L l E r E' r':=by first|exact RnD (z:=false) rfl|exact RnC (z:=false) rfl rfl rfl rfl rfl rfl|exact RnD (z:=true) rfl|exact RnC (z:=true) rfl rfl rfl rfl rfl rfl):CN P ops w0 K n ds Q r E L:=hr h
end
section
variable{P:Program}[T:Tab P]{ops:Array Oper}{w0 w:World}{K:List Nat}{n:Nat}{ds:List Deferred}{E E' E1:Env}{o:Oper}{v:Value}{d k t i:Nat}{x:Operand}{q q':Prop}{l:List Nat}{ad:Addr}{z:Bool}{Lf:List Chunk}{cl:List Qy}{A:List Nat}{Qa:Act->World->Prop}{ri ri' r1:List Nat}{Ls:List Chunk}{Ln:List (Nat×Chunk)}
theorem svF_ok(ho:ops[i]? =some o)(h:sv P z ops n E q o=some (E',q'))(hq:q'):q/\(BF P ops w0 K n ds Lf cl A Qa ri E' Ls Ln->BF P ops w0 K n ds Lf cl A Qa (i::ri) E Ls Ln):=by
 unfold sv at h;split at h
 .rename_i hw;split at h
  .rename_i hd;cases h;exact⟨hq,BF.skip ho hd hw⟩
  rename_i hd;cases h;exact⟨hq,BF.skip0 ho hd hw⟩
 .rename_i hw;split at h
  .rename_i hd;split at h
   .rename_i hp;cases h;obtain⟨h1,h2⟩:=pv_ok rfl hp hq;exact⟨h1,BF.pur ho hd hw h2⟩
   cases h
  cases h
 cases h
theorem O8:∀{k E q r},XU P z ops n k E q r=some (E',ri',q')->q'->q/\(BF P ops w0 K n ds Lf cl A Qa ri' E' Ls Ln->BF P ops w0 K n ds Lf cl A Qa r E Ls Ln)
 | 0,E,q,r,h,hq=>by cases h;exact⟨hq,id⟩
 | k+1,E,q,[],h,hq=>by cases h
 | k+1,E,q,o::r,h,hq=>by
  unfold XU at h;split at h
  .rename_i ho;split at h
   .rename_i hs;obtain⟨h1,h2⟩:=O8 h hq;obtain⟨h3,h4⟩:=svF_ok ho hs h1;exact⟨h3,fun x=>h4 (h2 x)⟩
   cases h
  cases h
def RnF(P:Program)(ops:Array Oper)(w0:World)(K:List Nat)(n:Nat)(ds:List Deferred)(Lf:List Chunk)(cl:List Qy)(A:List Nat)(Qa:Act->World->Prop)(Ls:List Chunk)(Ln:List (Nat×Chunk))(l:List Nat)(E:Env)(r:List Nat)(E':Env)(r':List Nat):Prop:=BF P ops w0 K n ds Lf cl A Qa r' E' Ls Ln->BF P ops w0 K n ds Lf cl A Qa r E Ls Ln
theorem RnDF(hr:XU P z ops n k E True ri=some (E',ri',q))(hq:q:=by repeat (first|exact trivial|refine⟨?_,by omega⟩)):RnF P ops w0 K n ds Lf cl A Qa Ls Ln [k] E ri E' ri':=(O8 hr hq).2
theorem RnCF{j:Nat}(hr:XU P z ops n k E True ri=some (E1,i::r1,q))(hi:ops[i]? =some o)(hc:cl.getD i .q= .v)(hd:o.dst=some d)(hw:want n E1 ops o=some true)(ho:o.op= .load t x)(hx:ev n E1 x=some (.pointer (some ad)))(ht:ta t T.a=true)(hq:q:=by repeat (first|exact trivial|refine⟨?_,by omega⟩))(hh:Ll w0 K Ls ad v:=by first|exact B0 rfl|exact A7 (by assumption))
 (h:RnF P ops w0 K n ds Lf cl A Qa Ls Ln (j::l) ((d,v)::E1) r1 E' ri':=by first|exact RnDF (z:=false) rfl|exact RnCF (z:=false) rfl rfl rfl rfl rfl rfl rfl rfl|exact RnDF (z:=true) rfl|exact RnCF (z:=true) rfl rfl rfl rfl rfl rfl rfl rfl):RnF P ops w0 K n ds Lf cl A Qa Ls Ln (k::j::l) E ri E' ri':=fun hs=>(O8 hr hq).2 (Bp hi hc hd hw (AG ho hx (Qf ht) hh) (h hs))
theorem Yz(l:List Nat)(h:BF P ops w0 K n ds Lf cl A Qa ri' E' Ls Ln)(hr:RnF P ops w0 K n ds Lf cl A Qa Ls Ln l E ri E' ri':=by first|exact RnDF (z:=false) rfl|exact RnCF (z:=false) rfl rfl rfl rfl rfl rfl rfl rfl|exact RnDF (z:=true) rfl|exact RnCF (z:=true) rfl rfl rfl rfl rfl rfl rfl rfl):BF P ops w0 K n ds Lf cl A Qa ri E Ls Ln:=hr h
end
/-! ### more short forms -/
section
variable{P:Program}[T:Tab P]{ops:Array Oper}{w0 w:World}{K:List Nat}{n:Nat}{ds:List Deferred}{E:Env}{L:List Chunk}{Q:Exit->Act->World->Prop}{Qa:Act->World->Prop}{o:Oper}{r:List Oper}{v v1 v2:Value}{d k t e tb g i m len cap:Nat}{x y:Operand}{ad:Addr}{up:Array Value->List Chunk}{cs us:Array Value}{zv:Value}
theorem Zq(cs':Array Value)(h:CN P ops w0 K n ds Q r E (up cs'))(hd:o.dst=none:=by exact rfl)(hw:want n E ops o=some true:=by exact rfl)(ho:o.op= .store t x y:=by exact rfl)(hx:ev n E x=some (.pointer (some ⟨g,i,none⟩)):=by exact rfl)(hy:ev n E y=some (.agg us):=by exact rfl)(hu:Up L g tb cs up:=by infer_instance)(hs:tu t T.s=some us.size:=by exact rfl)(h1:us.toList.all Value.oneCell'=true:=by exact rfl)(hi:i+us.size<=cs.size:=by exact A1f rfl)(hc:(cs.toList.take i++us.toList++cs.toList.drop (i+us.size)).toArray=cs':=by exact rfl):CN P ops w0 K n ds Q (o::r) E L:=CN.sto hd hw (B3 ho hx hy (KQ hs) h1 hi hc) h
theorem Jj(cs':Array Value)(h:CN P ops w0 K n ds Q r E (up cs'))(hd:o.dst=none:=by exact rfl)(hw:want n E ops o=some true:=by exact rfl)(ho:o.op= .store t x y:=by exact rfl)(hx:ev n E x=some (.pointer (some ⟨g,i,none⟩)):=by exact rfl)(hy:ev n E y=some v:=by exact rfl)(hu:Up L g tb cs up:=by infer_instance)(hs:tu t T.s=some 1:=by exact rfl)(h1:v.oneCell'=true:=by exact rfl)(hi:i<cs.size:=by exact A1f rfl)(hc:cs.setIfInBounds i v=cs':=by exact rfl):CN P ops w0 K n ds Q (o::r) E L:=CN.sto hd hw (AP ho hx hy (KQ hs) h1 hi hc) h
theorem ZL{ps:Array (Nat×Operand)}{vs:List (Nat×Value)}{l:List Value}(cs:Array Value)(ht:P.underlying t=some (.slice e))(hm:BD P e=some m)(hz:B2 P e=some zv)(h:∀g,CN P ops w0 K n ds Q r ((d,(Uv.sl len len).val g)::E) (AC g e cs::L))(hd:o.dst=some d:=by exact rfl)(hw:want n E ops o=some true:=by exact rfl)(ho:o.op= .buildSlice t len ps:=by exact rfl)(hp:ND n E ps.toList=some vs:=by exact rfl)(hzs:zv.cells.size=m:=by exact rfl)(hm0:0<m:=by decide)(hl:len*m<=16777216:=by decide)
 (hb:JV (fun i=>some (i*m,m)) (List.flatten (List.replicate len zv.cells.toList)) vs=some l:=by exact rfl)(hc:l.toArray=cs:=by exact rfl):CN P ops w0 K n ds Q (o::r) E L:=CN.new hd hw (Eo ho hp ht hm hz hzs hm0 hl hb hc) h
theorem ZB(h:∀g,CN P ops w0 K n ds Q r ((d,Uv.ptr.val g)::E) (AC g t cs::L))(hd:o.dst=some d:=by exact rfl)(hw:want n E ops o=some true:=by exact rfl)(ho:o.op= .box t x:=by exact rfl)(hx:ev n E x=some v:=by exact rfl)(hc:v.cells=cs:=by exact rfl):CN P ops w0 K n ds Q (o::r) E L:=CN.new hd hw (HE ho hx hc) h
theorem ZS{ps:Array (Nat×Operand)}{vs:List (Nat×Value)}{places:List (Nat×Nat)}{zs l:List Value}(cs:Array Value)(hb:Ce P t=some (places,zs))(h:CN P ops w0 K n ds Q r ((d,.agg cs)::E) L)(hd:o.dst=some d:=by exact rfl)(hw:want n E ops o=some true:=by exact rfl)(ho:o.op= .build t ps:=by exact rfl)(hp:ND n E ps.toList=some vs:=by exact rfl)(hf:JV (fun(i:Nat)=>places[i]?) zs vs=some l:=by exact rfl)(hc:l.toArray=cs:=by exact rfl):CN P ops w0 K n ds Q (o::r) E L:=CN.pur hd hw (Dy ho hp hb hf hc) h
theorem CR{cs:Array Value}(vs:List Value)(h:CN P ops w0 K n ds Q r ((d,.agg cs)::E) L)(hd:o.dst=some d:=by exact rfl)(hw:want n E ops o=some true:=by exact rfl)(ho:o.op= .load t x:=by exact rfl)(ht:ta t T.g=true:=by exact rfl)(hs:tu t T.s=some vs.length:=by exact rfl)(hx:ev n E x=some (.pointer (some ad)):=by exact rfl)(hc:vs.toArray=cs:=by exact rfl)(hh:Jl w0 K L ad vs:=by exact AW rfl):CN P ops w0 K n ds Q (o::r) E L:=CN.val hd hw (A4 ho hx (Tab.sg ht) (KQ hs) hc hh) h
theorem Zj{j:Int}{kd:IntKind}(ad':Addr)(h:CN P ops w0 K n ds Q r ((d,.pointer (some ad'))::E) L)(hd:o.dst=some d:=by exact rfl)(hw:want n E ops o=some true:=by exact rfl)(ho:o.op= .indexAddr t x y:=by exact rfl)(hx:ev n E x=some (.slice (some ad) len cap):=by exact rfl)(hy:ev n E y=some (.int kd j):=by exact rfl)(hu:tu t T.u=some e:=by exact rfl)(hm:tu e T.s=some 1:=by exact rfl)(h0:0<=j:=by omega)(h1:j<len:=by omega)
 (he:ad.add j.toNat=ad':=by first|exact rfl|rw[AX]):CN P ops w0 K n ds Q (o::r) E L:=CN.pur hd hw (B4 ho hx hy (Qe hu) (KQ hm) h0 h1 he) h
theorem cO{f:FuncId}{fn:Func}{c:Code}{args:List Value}{C:Value->List Chunk->Prop}(hf:P.funcs[f]? =some fn)(hn:fn.ntmps=n)(h:DC P w K n [] (bodyPost P fn (Ret w K C)) c (EJ 0 args) [])(hb:fn.body=some c:=by exact rfl)(hle:Nat.ble args.length n=true:=by exact rfl):Calls P f args.toArray w (Ret w K C):=BO hf hb hn hle (B8 _ _) h
theorem DN(t:Nat)(h:Dl w0 K n ds Qa [(t,v)] [])(hE:E.get t=some v:=by exact rfl):Dl w0 K n ds Qa E L:=AZ (E':=[(t,v)]) ⟨hE,trivial⟩ .nil h
theorem Lm(t u:Nat)(h:Dl w0 K n ds Qa [(t,v),(u,v1)] [])(hE:E.get t=some v:=by exact rfl)(h1:E.get u=some v1:=by exact rfl):Dl w0 K n ds Qa E L:=AZ (E':=[(t,v),(u,v1)]) ⟨hE,h1,trivial⟩ .nil h
theorem UB(t u k:Nat)(h:Dl w0 K n ds Qa [(t,v),(u,v1),(k,v2)] [])(hE:E.get t=some v:=by exact rfl)(h1:E.get u=some v1:=by exact rfl)(h2:E.get k=some v2:=by exact rfl):Dl w0 K n ds Qa E L:=AZ (E':=[(t,v),(u,v1),(k,v2)]) ⟨hE,h1,h2,trivial⟩ .nil h
def mkg:List Oper->List Nat->List Nat
 | [],a=>a
 | o::r,a=>mkg r (a++[(K0 o).foldl (fun s j=>s ||| (1 <<< j) ||| a.getD j 0) 0])
def mkA(ops:Array Oper):List Nat:=mkg ops.toList []
def cd:Nat->Qy
 | 0=>.q
 | 1=>.v
 | 2=>.n
 | 3=>.g
 | 4=>.r
 | _=>.s
def cv:Nat->Nat->List Qy
 | 0,_=>[]
 | f+1,k=>cd (k%10)::cv f (k / 10)
def ord(n:Nat):Nat->List Nat
 | 0=>[]
 | k+1=>(n-(k+1))::ord n k
def od(n:Nat):List Nat:=ord n n
theorem Fw(k:Nat)(order:List Nat)(Lf:List Chunk)(hLf:∀w,AR w0 K w L->AR w0 K w Lf){id:Nat}(h:BF P ops w0 K n ds Lf (cv 40 k) (mkA ops) (Q .normal) order E L [])(hc:Hl ops (cv 40 k) (mkA ops) order=true:=by kernel_rfl):DC P w0 K n ds Q (.region id ops true) E L:=II Lf T.mx hc hLf h
theorem Fv(k m:Nat){id:Nat}(h:BF P ops w0 K n ds [] (cv 40 k) (mkA ops) (Q .normal) (od m) E L [])(hc:Hl ops (cv 40 k) (mkA ops) (od m)=true:=by kernel_rfl):DC P w0 K n ds Q (.region id ops true) E L:=II [] T.mx hc PN h
end
section
variable{P:Program}[T:Tab P]{ops:Array Oper}{w0 w:World}{K:List Nat}{n:Nat}{ds:List Deferred}{E:Env}{o:Oper}{v:Value}{d k t e i len cap:Nat}{x y:Operand}{ad:Addr}{Lf:List Chunk}{cl:List Qy}{A:List Nat}{Qa:Act->World->Prop}{ri:List Nat}{Ls:List Chunk}{Ln:List (Nat×Chunk)}
theorem Yj{j:Int}{kd:IntKind}(ad':Addr)(h:BF P ops w0 K n ds Lf cl A Qa ri ((d,.pointer (some ad'))::E) Ls Ln)(hi:ops[i]? =some o:=by exact rfl)(hd:o.dst=some d:=by exact rfl)(hw:want n E ops o=some true:=by exact rfl)(ho:o.op= .indexAddr t x y:=by exact rfl)(hx:ev n E x=some (.slice (some ad) len cap):=by exact rfl)(hy:ev n E y=some (.int kd j):=by exact rfl)(hu:tu t T.u=some e:=by exact rfl)(hm:tu e T.s=some 1:=by exact rfl)(h0:0<=j:=by omega)(h1:j<len:=by omega)
 (he:ad.add j.toNat=ad':=by first|exact rfl|rw[AX]):BF P ops w0 K n ds Lf cl A Qa (i::ri) E Ls Ln:=BF.pur hi hd hw (B4 ho hx hy (Qe hu) (KQ hm) h0 h1 he) h
theorem Yh(hh:Ll w0 K Ls ad v)(h:BF P ops w0 K n ds Lf cl A Qa ri ((d,v)::E) Ls Ln)(hi:ops[i]? =some o:=by exact rfl)(hc:cl.getD i .q= .v:=by exact rfl)(hd:o.dst=some d:=by exact rfl)(hw:want n E ops o=some true:=by exact rfl)(ho:o.op= .load t x:=by exact rfl)(hx:ev n E x=some (.pointer (some ad)):=by exact rfl)(ht:ta t T.a=true:=by exact rfl):BF P ops w0 K n ds Lf cl A Qa (i::ri) E Ls Ln:=Bp hi hc hd hw (AG ho hx (Qf ht) hh) h
theorem Yg(h:BF P ops w0 K n ds Lf cl A Qa ri ((d,v)::E) Ls Ln)(hi:ops[i]? =some o:=by exact rfl)(hc:cl.getD i .q= .v:=by exact rfl)(hd:o.dst=some d:=by exact rfl)(hw:want n E ops o=some true:=by exact rfl)(ho:o.op= .load t x:=by exact rfl)(hx:ev n E x=some (.pointer (some ad)):=by exact rfl)(ht:ta t T.a=true:=by exact rfl)(hh:Ll w0 K Ls ad v):BF P ops w0 K n ds Lf cl A Qa (i::ri) E Ls Ln:=Bp hi hc hd hw (AG ho hx (Qf ht) hh) h
end
end
instance:Lo:=⟨True⟩
def Rd(w:World)(A:Option Addr)(vs:List Value):Prop:=∀j u,vs[j]? =some u->∃ad,A=some ad/\w.cell? (ad.add j)=some u
def AA(xs:List Int):List Value:=xs.map (Value.int .i64)
abbrev Pr:=Int×Int
def Cj:List Pr->List Value
 | []=>[]
 | e::r=>.int .i64 e.1:: .int .i64 e.2::Cj r
@[simp] theorem ints_length (xs:List Int):(AA xs).length=xs.length:=by simp[AA]
@[simp] theorem prs_length (es:List Pr):(Cj es).length=es.length*2:=by
 induction es with
 | nil=>rfl
 | cons e r ih=>simp[Cj,ih,A3i]
theorem MI{xs:List Int}{i:Nat}{x:Int}(h:xs[i]? =some x):(AA xs)[i]? =some (.int .i64 x):=by simp[AA,h]
theorem Pk:∀{es:List Pr} {i:Nat} {e:Pr},es[i]? =some e->(Cj es)[i*2]? =some (.int .i64 e.1)/\(Cj es)[i*2+1]? =some (.int .i64 e.2)
 | [],i,e,h=>by simp at h
 | x::r,0,e,h=>by simp at h;subst h;simp[Cj]
 | x::r,i+1,e,h=>by
  simp at h;have:=Pk h;rw[A3i];exact⟨by simpa [Cj] using this.1,by simpa [Cj] using this.2⟩
theorem Dc(a b:List Pr):Cj (a++b)=Cj a++Cj b:=by
 induction a with
 | nil=>rfl
 | cons e r ih=>simp[Cj,ih]
theorem BW(a b:List Int):AA (a++b)=AA a++AA b:=by simp[AA]
theorem CL(a b:List Int):∀u,u∈AA a->u.oneCell'=true:=by
 intro u hu;simp[AA] at hu;obtain⟨x,_,rfl⟩:=hu;rfl
theorem Lz:∀(es:List Pr) u,u∈Cj es->u.oneCell'=true
 | [],u,h=>by cases h
 | e::r,u,h=>by
  simp[Cj] at h;rcases h with rfl|rfl|h
  .rfl
  .rfl
  exact Lz r u h
section
variable{w0 w:World}{K:List Nat}{L:List Chunk}{A:Option Addr}{vs:List Value}
theorem Rd.keep(h:Rd w0 A vs)(hk:∀ad,A=some ad->ad.block∉K)(hw:AR w0 K w L):Rd w A vs:=by
 intro j u hj;obtain⟨ad,rfl,hc⟩:=h j u hj;refine⟨ad,rfl,?_⟩;have hb:(ad.add j).block=ad.block:=by unfold Addr.add;split<;>rfl
 rw[hw.oldCell (World.block_lt_of_cell? w0 _ hc) (by rw[hb];exact hk ad rfl)];exact hc
theorem Rd.keep0(h:Rd w0 A vs)(hw:AR w0 [] w L):Rd w A vs:=h.keep (fun _ _=>by simp) hw
theorem Rd.pair{es:List Pr}{i:Nat}{e:Pr}(h:Rd w0 A (Cj es))(hi:es[i]? =some e):∃ad,A=some ad/\w0.cell? (ad.add (i*2))=some (.int .i64 e.1)/\w0.cell? (ad.add (i*2+1))=some (.int .i64 e.2):=by
 obtain⟨h1,h2⟩:=Pk hi;obtain⟨ad,rfl,hc1⟩:=h _ _ h1;obtain⟨ad',he,hc2⟩:=h _ _ h2;cases he;exact⟨ad,rfl,hc1,hc2⟩
theorem Rd.int{xs:List Int}{i:Nat}{x:Int}(h:Rd w0 A (AA xs))(hi:xs[i]? =some x):∃ad,A=some ad/\w0.cell? (ad.add i)=some (.int .i64 x):=h _ _ (MI hi)
theorem Kc(ad:Addr)(i j:Nat)(h:0<j):(ad.add i).add j=ad.add (i+j):=by
 have h1:¬j=0:=by omega
 have h2:¬i+j=0:=by omega
 unfold Addr.add;rw[if_neg h1,if_neg h2];split
 .rename_i hi;subst hi;simp
 simp[A3h]
theorem Fm{ad:Addr}{i:Nat}{x y:Value}(h1:w0.cell? (ad.add i)=some x)(h2:w0.cell? (ad.add (i+1))=some y)(hk:ad.block∉K):Jl w0 K L (ad.add i) [x,y]:=by
 have hb:(ad.add i).block=ad.block:=by unfold Addr.add;split<;>rfl
 refine MK (fun j u hj=>?_) (by rw[hb];exact hk)
 match j,hj with
 | 0,hj=>
  simp at hj;subst hj;have:(ad.add i).add 0=ad.add i:=by simp[Addr.add]
  rw[this];exact h1
 | 1,hj=>simp at hj;subst hj;rw[Kc _ _ _ (by omega)];exact h2
theorem hass_rd{A:Option Addr}{vs:List Value}{ad:Addr}(h:Rd w0 A vs)(hA:A=some ad)(hk:ad.block∉K):Jl w0 K L ad vs:=by
 subst hA;refine MK (fun j u hj=>?_) hk;obtain⟨ad',he,hc⟩:=h j u hj;cases he;exact hc
theorem Td{vs:List Value}{k c m:Nat}(h:Rd w0 A vs)(hl:vs.length=k*m)(hk:∀ad,A=some ad->ad.block∉K)(hA:A=none->k=0):Src w0 K L (.slice A k c) k vs:=by
 cases A with
 | none=>
  have h0:=hA rfl;subst h0;exact .inr ⟨c,rfl,rfl,A1s (by simpa using hl)⟩
 | some ad=>exact .inl ⟨ad,c,rfl,hass_rd h rfl (hk ad rfl)⟩
end
/-! ### graphs -/
structure OkE (N:Int) (e:Pr):Prop where
 lo:0<=e.1
 lt:e.1<e.2
 hi:e.2<N
def Lex(a b:Pr):Prop:=a.1<b.1\/(a.1=b.1/\a.2<b.2)
structure BX (N:Int) (es:List Pr):Prop where
 lo:0<=N
 hi:N<=1048576
 few:es.length<=4194304
 ok:∀(i:Nat) e,es[i]? =some e->OkE N e
 up:∀(i:Nat) a b,es[i]? =some a->es[i+1]? =some b->Lex a b
section
variable{P:Program}{w0 w:World}{K:List Nat}{n:Nat}{ds:List Deferred}{E:Env}{L F:List Chunk}{o:Oper}{x y z:Operand}{v u:Value}
theorem EI{g t i:Nat}{cs:Array Value}{fz:Nat×Nat}(h:w.heap[g]? =some (.cells cs t fz))(hv:cs[i]? =some v):w.cell? ⟨g,i,none⟩=some v:=by
 rw[cell_of_row w g i cs t fz h];exact hv
theorem Bh{g t i:Nat}{cs:Array Value}{fz:Nat×Nat}(h:w0.heap[g]? =some (.cells cs t fz))(hv:cs[i]? =some v):Ll w0 [] L ⟨g,i,none⟩ v:=A7 (EI h hv)
theorem Br{xs:List Int}{i:Nat}{x:Int}(h:xs[i]? =some x):(AA xs).toArray[i]? =some (.int .i64 x):=by simp[AA,h]
theorem F2{g:Nat}{ob:Obj}(hw:AR w0 K w L)(h:w0.heap[g]? =some ob)(hk:g∉K):w.heap[g]? =some ob:=by
 rw[hw.old g (A1t.1 h).1 hk];exact h
theorem A0S{t e m len cap lo hi:Nat}{A:Option Addr}(ho:o.op= .slice t x (some y) (some z) none)(hx:ev n E x=some (.slice A len cap))(hy:ev n E y=some (.int .i64 lo))(hz:ev n E z=some (.int .i64 hi))
 (ht:P.underlying t=some (.slice e))(hm:BD P e=some m)(h1:lo<=hi)(h2:hi<=cap):EL P n ds E o (.slice (if cap=lo then A else A.map (·.add (lo*m))) (hi-lo) (cap-lo)):=by
 intro a w ha;have ht':P.underlying t=some (.slice (P.elem t)):=by simp[Program.elem,ht]
 have he:P.elem t=e:=by simp[Program.elem,ht]
 have:=run_slice_lh (P:=P) w t A len cap ht' .i64 .i64 lo hi (by omega) (by omega) (by omega);rw[he,Cp hm] at this;simp[execOp,ho,ha.ev hx,ha.ev hy,ha.ev hz,run_sliceAt_slice w t _ _ _ _ ht',this,sliced]
theorem FY{t e m len cap hi:Nat}{A:Option Addr}(ho:o.op= .slice t x none (some z) none)(hx:ev n E x=some (.slice A len cap))(hz:ev n E z=some (.int .i64 hi))
 (ht:P.underlying t=some (.slice e))(hm:BD P e=some m)(h2:hi<=cap):EL P n ds E o (.slice A hi cap):=by
 intro a w ha;have ht':P.underlying t=some (.slice (P.elem t)):=by simp[Program.elem,ht]
 have he:P.elem t=e:=by simp[Program.elem,ht]
 have:=run_slice_h (P:=P) w t A len cap ht' .i64 hi (by omega) (by omega);rw[he,Cp hm] at this;have e1:((if cap=0 then A else A.map (·.add (0*m))))=A:=by
  split
  .rfl
  cases A<;>simp[Addr.add]
 simp[execOp,ho,ha.ev hx,ha.ev hz,run_sliceAt_slice w t _ _ _ _ ht',this,sliced];simpa using e1
theorem Ha{t e m len cap lo:Nat}{A:Option Addr}(ho:o.op= .slice t x (some y) none none)(hx:ev n E x=some (.slice A len cap))(hy:ev n E y=some (.int .i64 lo))
 (ht:P.underlying t=some (.slice e))(hm:BD P e=some m)(h2:lo<=len):EL P n ds E o (.slice (if cap=lo then A else A.map (·.add (lo*m))) (len-lo) (cap-lo)):=by
 intro a w ha;have ht':P.underlying t=some (.slice (P.elem t)):=by simp[Program.elem,ht]
 have he:P.elem t=e:=by simp[Program.elem,ht]
 have:=run_slice_l (P:=P) w t A len cap ht' .i64 lo (by omega) (by omega);rw[he,Cp hm] at this;simp[execOp,ho,ha.ev hx,ha.ev hy,run_sliceAt_slice w t _ _ _ _ ht',this,sliced]
end
/-! ### half-edges -/
def frs:List Pr->List Int
 | []=>[]
 | e::r=>e.1::e.2::frs r
def Dn:Nat->List Pr->Int->List Int
 | _,[],_=>[]
 | k,e::r,v=>(if e.1=v then[2*(k:Int)] else if e.2=v then[2*(k:Int)+1] else[])++Dn (k+1) r v
def Bs(es:List Pr)(v:Int):List Int:=Dn 0 es v
def tw(h:Int):Int:=if h%2=0 then h+1 else h-1
def Aj(es:List Pr)(h:Int):Int:=if 0<=h then((frs es)[h.toNat]?).getD (-1) else -1
def AD(es:List Pr)(h:Int):Int:=if 0<=h then Aj es (tw h) else -1
theorem Cz(es:List Pr):(frs es).length=es.length*2:=by
 induction es with
 | nil=>rfl
 | cons e r ih=>simp[frs,ih,A3i]
theorem Ek:∀{es:List Pr} {i:Nat} {e:Pr},es[i]? =some e->(frs es)[2*i]? =some e.1/\(frs es)[2*i+1]? =some e.2
 | [],i,e,h=>by simp at h
 | x::r,0,e,h=>by simp at h;subst h;simp[frs]
 | x::r,i+1,e,h=>by
  simp at h;have:=Ek h;rw[Nat.mul_succ];exact⟨by simpa [frs] using this.1,by simpa [frs] using this.2⟩
theorem PR{es:List Pr}{h:Nat}(hh:h<es.length*2):∃e,es[h / 2]? =some e/\(frs es)[h]? =some (if h%2=0 then e.1 else e.2):=by
 have hlt:h / 2<es.length:=by omega
 obtain⟨e,he⟩:∃e,es[h / 2]? =some e:=⟨_,A1d hlt⟩;refine⟨e,he,?_⟩;have:=Ek he;by_cases hp:h%2=0
 .rw[if_pos hp];have e1:2*(h / 2)=h:=by omega
  rw[e1] at this;exact this.1
 rw[if_neg hp];have e1:2*(h / 2)+1=h:=by omega
 rw[e1] at this;exact this.2
theorem KB:∀{es:List Pr} {k:Nat} {v h:Int},h∈Dn k es v↔∃(i:Nat) (e:Pr),es[i]? =some e/\((e.1=v/\h=2*((k+i:Nat):Int))\/(e.1≠v/\e.2=v/\h=2*((k+i:Nat):Int)+1))
 | [],k,v,h=>by simp[Dn]
 | x::r,k,v,h=>by
  unfold Dn;rw[A1C,KB];constructor
  .rintro(h1|⟨i,e,he,h1⟩)
   .refine⟨0,x,by simp,?_⟩;split at h1
    .rename_i h2;simp at h1;exact .inl ⟨h2,by simpa using h1⟩
    rename_i h2;split at h1
    .rename_i h3;simp at h1;exact .inr ⟨h2,h3,by simpa using h1⟩
    simp at h1
   refine⟨i+1,e,by simpa using he,?_⟩;rw[show k+(i+1)=k+1+i by omega];exact h1
  rintro⟨i,e,he,h1⟩
  match i,he with
  | 0,he=>
   simp at he;subst he;left;rcases h1 with⟨h2,h3⟩|⟨h2,h3,h4⟩
   .rw[if_pos h2];simpa using h3
   rw[if_neg h2,if_pos h3];simpa using h4
  | i+1,he=>
   right;refine⟨i,e,by simpa using he,?_⟩;rw[show k+1+i=k+(i+1) by omega];exact h1
structure Jo where
 gp:Nat
 g0:Nat
 g1:Nat
 g2:Nat
 g3:Nat
 fr:List Int
 st:List Int
 ou:List Int
 pl:List Int
def sl(g:Nat)(xs:List Int):Value:=.slice (some ⟨g,0,none⟩) xs.length xs.length
structure Xj (N:Int) (es:List Pr) (M:Jo):Prop where
 vld:BX N es
 fr:M.fr=frs es
 stl:M.st.length=N.toNat+1
 st0:M.st[0]? =some 0
 stn:∀(v:Nat) x,(v:Int)<N->M.st[v]? =some x->M.st[v+1]? =some (x+(Bs es v).length)
 oul:M.ou.length=es.length*2
 pll:M.pl.length=es.length*2
 ou:∀(v:Nat) x,(v:Int)<N->M.st[v]? =some x->∀(k:Nat) h,(Bs es v)[k]? =some h->M.ou[x.toNat+k]? =some h/\M.pl[h.toNat]? =some (x+k)
 bd:∀(v:Nat) x,M.st[v]? =some x->0<=x/\x<=es.length*2
structure A0j (w:World) (ta ti:Nat) (M:Jo):Prop where
 hp:w.heap[M.gp]? =some (.cells #[sl M.g0 M.fr,sl M.g1 M.st,sl M.g2 M.ou,sl M.g3 M.pl] ta (0,0))
 h0:w.heap[M.g0]? =some (.cells (AA M.fr).toArray ti (0,0))
 h1:w.heap[M.g1]? =some (.cells (AA M.st).toArray ti (0,0))
 h2:w.heap[M.g2]? =some (.cells (AA M.ou).toArray ti (0,0))
 h3:w.heap[M.g3]? =some (.cells (AA M.pl).toArray ti (0,0))
inductive Xi (w:World) (ta ti:Nat) (N:Int) (es:List Pr) (M:Jo):Option Addr->Prop
 | nil (hN:N=0) (he:es=[]):Xi w ta ti N es M none
 | at(hA:A0j w ta ti M) (hP:Xj N es M):Xi w ta ti N es M (some ⟨M.gp,0,none⟩)
theorem A0u:BX 0 []:=⟨by omega,by omega,by simp,fun i e h=>by simp at h,fun i a b h=>by simp at h⟩
section
variable{w w0:World}{K:List Nat}{L:List Chunk}{ta ti:Nat}{N:Int}{es:List Pr}{M:Jo}{p:Option Addr}
theorem Xi.vld(h:Xi w ta ti N es M p):BX N es:=by
 cases h with
 | nil hN he=>subst hN he;exact A0u
 | «at» hA hP=>exact hP.vld
theorem A0j.keep(h:A0j w0 ta ti M)(hw:AR w0 [] w L):A0j w ta ti M:=
 ⟨F2 hw h.hp (by simp),F2 hw h.h0 (by simp),F2 hw h.h1 (by simp),F2 hw h.h2 (by simp),F2 hw h.h3 (by simp)⟩
theorem Xi.keep(h:Xi w0 ta ti N es M p)(hw:AR w0 [] w L):Xi w ta ti N es M p:=by
 cases h with
 | nil hN he=>exact .nil hN he
 | «at» hA hP=>exact .at (hA.keep hw) hP
theorem Mr(h:BX N es){v:Int}(hv:¬(0<=v/\v<N)):Bs es v=[]:=by
 rw[List.eq_nil_iff_forall_not_mem];intro x hx;obtain⟨i,e,he,h1⟩:=KB.1 hx;have ho:=h.ok i e he;have:=ho.lo;have:=ho.lt;have:=ho.hi;rcases h1 with⟨h1,_⟩|⟨_,h1,_⟩<;>omega
theorem Ia(es:List Pr){h:Int}(h0:0<=h)(h1:h<es.length*2):∃x,(frs es)[h.toNat]? =some x/\Aj es h=x:=by
 have hlt:h.toNat<(frs es).length:=by rw[Cz];omega
 refine⟨(frs es)[h.toNat],A1d hlt,?_⟩;unfold Aj;rw[if_pos h0,A1d hlt];rfl
theorem Ow(es:List Pr){h:Int}(hh:¬(0<=h/\h<es.length*2)):Aj es h= -1:=by
 unfold Aj;split
 .rw[A1u (by rw[Cz];omega)];rfl
 rfl
theorem A0C(es:List Pr){h:Int}(hh:¬(0<=h/\h<es.length*2)):AD es h= -1:=by
 unfold AD;split
 .apply Ow;unfold tw;split<;>omega
 rfl
theorem FW{h:Int}{m:Nat}(h0:0<=h)(h1:h<m*2):0<=tw h/\tw h<m*2:=by unfold tw;split<;>omega
theorem DK(h:Int):tw (tw h)=h:=by unfold tw;split<;>split<;>omega
theorem Bb(hv:BX N es){v h:Int}:h∈Bs es v↔(0<=h/\h<es.length*2/\Aj es h=v):=by
 unfold Bs;rw[KB];constructor
 .rintro⟨i,e,he,h1⟩;have hlt:=(A1e.1 he).1;obtain⟨f1,f2⟩:=Ek he;rcases h1 with⟨h1,h2⟩|⟨h1,h2,h3⟩
  .have e0:h.toNat=2*i:=by omega
   refine⟨by omega,by omega,?_⟩;unfold Aj;rw[if_pos (by omega),e0,f1];exact h1
  have e0:h.toNat=2*i+1:=by omega
  refine⟨by omega,by omega,?_⟩;unfold Aj;rw[if_pos (by omega),e0,f2];exact h2
 rintro⟨h0,h1,h2⟩;obtain⟨e,he,hf⟩:=PR (es:=es) (h:=h.toNat) (by omega);have hx:Aj es h=if h.toNat%2=0 then e.1 else e.2:=by
  unfold Aj;rw[if_pos h0,hf];rfl
 rw[hx] at h2;have hok:=(hv.ok _ e he).lt;refine⟨h.toNat / 2,e,he,?_⟩;split at h2
 .left;exact⟨h2,by omega⟩
 right;exact⟨by omega,h2,by omega⟩
end
def BA(n:Nat)(f:Nat->Int):List Int:=(List.range n).map f
def upd(f:Nat->Int)(k:Nat)(x:Int):Nat->Int:=fun i=>if i=k then x else f i
@[simp] theorem tab_length (n:Nat) (f:Nat->Int):(BA n f).length=n:=by simp[BA]
theorem C3{n i:Nat}(f:Nat->Int)(h:i<n):(BA n f)[i]? =some (f i):=by simp[BA,h]
theorem LZ{n i:Nat}{f:Nat->Int}{x:Int}(h:(BA n f)[i]? =some x):i<n/\x=f i:=by
 have hi:=(A1e.1 h).1;simp at hi;rw[C3 f hi] at h;exact⟨hi,(Option.some.inj h).symm⟩
theorem G0{n k:Nat}(f:Nat->Int)(x:Int):(BA n f).set k x=BA n (upd f k x):=by
 apply A2z;intro i;by_cases hi:i<n
 .rw[C3 _ hi];by_cases hk:k=i
  .subst hk;rw[A2A (by simpa using hi)];simp[upd]
  rw[A2E hk,C3 _ hi];simp[upd,Ne.symm hk]
 rw[A1u (by simp;omega),A1u (by simp;omega)]
theorem DE{n:Nat}{f g:Nat->Int}(h:∀i,i<n->f i=g i):BA n f=BA n g:=by
 apply A2I;intro i hi;exact h i (A1r.1 hi)
theorem XE(n:Nat):List.replicate n (0:Int)=BA n (fun _=>0):=by
 apply A2z;intro i;by_cases hi:i<n
 .rw[C3 _ hi];simp[hi]
 rw[A1u (by simp;omega),A1u (by simp;omega)]
theorem Om(k:Nat):madeCells (Value.int .i64 0).cells (k*1)=(AA (List.replicate k 0)).toArray:=by
 rw[F3 _ rfl];simp[AA]
theorem BS(k:Nat):madeCells (Value.int .i64 0).cells (k*1)=(AA (BA k fun _=>0)).toArray:=by rw[Om,XE]
theorem Pa{xs:List Int}{sp:List Value}{i:Nat}{x:Int}(h:i<xs.length):((AA xs++sp).toArray).setIfInBounds i (.int .i64 x)=(AA (xs.set i x)++sp).toArray:=by
 apply Array.ext';simp only[Array.toList_setIfInBounds];rw[List.set_append_left _ _ (by simpa using h)];simp[AA,A3t]
theorem BP{xs:List Int}{i:Nat}{x:Int}:((AA xs).toArray).setIfInBounds i (.int .i64 x)=(AA (xs.set i x)).toArray:=by
 apply Array.ext';simp[AA,A3t]
theorem BU{n i:Nat}{f:Nat->Int}{x:Int}:((AA (BA n f)).toArray).setIfInBounds i (.int .i64 x)=(AA (BA n (upd f i x))).toArray:=by rw[BP,G0]
theorem G7{xs:List Int}{sp:List Value}{i:Nat}{x:Int}(h:xs[i]? =some x):((AA xs++sp).toArray)[i]? =some (.int .i64 x):=by
 have hi:=(A1e.1 h).1;simp only[A3u];rw[A1o (by simpa using hi)];exact MI h
theorem BB{n i:Nat}{f:Nat->Int}(h:i<n):((AA (BA n f)).toArray)[i]? =some (.int .i64 (f i)):=Br (C3 f h)
/-! ### counting -/
theorem Pz(k:Nat)(a b:List Pr)(v:Int):Dn k (a++b) v=Dn k a v++Dn (k+a.length) b v:=by
 induction a generalizing k with
 | nil=>simp[Dn]
 | cons e r ih=>simp only[A1K,Dn,ih,A1L,A2a];rw[show k+1+r.length=k+(r.length+1) by omega]
def Wn(k:Nat)(e:Pr)(v:Int):List Int:=if e.1=v then[2*(k:Int)] else if e.2=v then[2*(k:Int)+1] else[]
theorem I6{es:List Pr}{j:Nat}{e:Pr}(h:es[j]? =some e)(v:Int):Bs es v=Bs (es.take j) v++(Wn j e v++Dn (j+1) (es.drop (j+1)) v):=by
 have hj:=(A1e.1 h).1;have hlen:(es.take j).length=j:=by simp;omega
 have hsplit:es=es.take j++e::es.drop (j+1):=by
  have:=(A3s j es).symm;rw[A2e hj] at this;rw[(A1e.1 h).2] at this;exact this
 have e1:Bs es v=Bs (es.take j++e::es.drop (j+1)) v:=congrArg (fun l=>Bs l v) hsplit;rw[e1];unfold Bs;rw[Pz,hlen,A2d]
 rfl
theorem Of{es:List Pr}{j:Nat}{e:Pr}(h:es[j]? =some e)(v:Int):Bs (es.take (j+1)) v=Bs (es.take j) v++Wn j e v:=by
 have hj:=(A1e.1 h).1;have h2:(es.take (j+1))[j]? =some e:=by rw[A2j];simp[h]
 rw[I6 h2 v];have e1:(es.take (j+1)).take j=es.take j:=by rw[List.take_take];congr 1;omega
 have e2:(es.take (j+1)).drop (j+1)=[]:=by simp
 rw[e1,e2];simp[Dn]
def Fr(es:List Pr)(v:Nat):Int:=(Bs es v).length
def pre(es:List Pr):Nat->Int
 | 0=>0
 | v+1=>pre es v+Fr es v
theorem Hs(es:List Pr)(v:Nat):0<=Fr es v:=by unfold Fr;omega
theorem JF(es:List Pr){u v:Nat}(h:u<=v):pre es u<=pre es v:=by
 induction h with
 | refl=>exact A2g _
 | @step m _ ih=>
  have:=Hs es m;show pre es u<=pre es m+Fr es m;omega
theorem En(es:List Pr)(v:Nat):0<=pre es v:=by have:=JF es (A1E v);simpa [pre] using this
theorem Rq(k:Nat)(e:Pr)(v:Int)(hne:e.1≠e.2):((Wn k e v).length:Int)=(if e.1=v then 1 else 0)+(if e.2=v then 1 else 0):=by
 unfold Wn;by_cases h1:e.1=v
 .have:¬e.2=v:=by omega
  simp[h1,this]
 by_cases h2:e.2=v<;>simp[h1,h2]
theorem MX{es:List Pr}{j:Nat}{e:Pr}(h:es[j]? =some e)(hne:e.1≠e.2)(v:Nat):Fr (es.take (j+1)) v=Fr (es.take j) v+(if e.1=v then 1 else 0)+(if e.2=v then 1 else 0):=by
 unfold Fr;rw[Of h,A1V];have:=Rq j e v hne
 push_cast
 omega
theorem X8{es:List Pr}{j:Nat}{e:Pr}(h:es[j]? =some e)(hne:e.1≠e.2)(h1:0<=e.1)(h2:0<=e.2)(u:Nat):pre (es.take (j+1)) u=pre (es.take j) u+(if e.1<u then 1 else 0)+(if e.2<u then 1 else 0):=by
 induction u with
 | zero=>simp only[pre];rw[if_neg (by omega),if_neg (by omega)];rfl
 | succ u ih=>
  simp only[pre,ih,MX h hne u];by_cases a1:e.1=u<;>by_cases a2:e.2=u<;>by_cases b1:e.1<u<;>by_cases b2:e.2<u<;>simp[a1,a2,b1,b2]<;>(repeat' split)<;>omega
theorem A0O{N:Int}{es:List Pr}(hv:BX N es):pre es N.toNat=es.length*2:=by
 have key:∀j,j<=es.length->pre (es.take j) N.toNat=j*2:=by
  intro j
  induction j with
  | zero=>
   intro _;have:∀u,pre [] u=0:=by intro u;induction u with
    | zero=>rfl
    | succ u ih=>simp[pre,ih,Fr,Bs,Dn]
   simp[this]
  | succ j ih=>
   intro hj;have he:es[j]? =some es[j]:=A1d (by omega);have ho:=hv.ok j _ he;have:=ho.lo;have:=ho.lt;have:=ho.hi;rw[X8 he (by omega) (by omega) (by omega),ih (by omega),if_pos (by omega),if_pos (by omega)];omega
 have:=key es.length (A1F _);rwa [A1T] at this
theorem Tt{N:Int}{es:List Pr}(hv:BX N es){v:Nat}(h:(v:Int)<=N):pre es v<=es.length*2:=by
 rw[<-A0O hv];exact JF es (by omega)
def SW(es:List Pr)(j:Nat)(v:Int):Int:=((es.take j).countP fun e=>decide (e.2=v))
def Ws(es:List Pr)(j:Nat)(v:Int):Int:=((es.take j).countP fun e=>decide (e.1=v))
theorem Mz{es:List Pr}{j:Nat}{e:Pr}(h:es[j]? =some e)(v:Int):SW es (j+1) v=SW es j v+(if e.2=v then 1 else 0):=by
 have hj:=(A1e.1 h);unfold SW;rw[List.take_succ_eq_append_getElem hj.1,hj.2,A2r];simp;split<;>simp
theorem RH{es:List Pr}{j:Nat}{e:Pr}(h:es[j]? =some e)(v:Int):Ws es (j+1) v=Ws es j v+(if e.1=v then 1 else 0):=by
 have hj:=(A1e.1 h);unfold Ws;rw[List.take_succ_eq_append_getElem hj.1,hj.2,A2r];simp;split<;>simp
theorem LD{N:Int}{es:List Pr}(hv:BX N es)(v:Int):∀j,j<=es.length->((Bs (es.take j) v).length:Int)=SW es j v+Ws es j v:=by
 intro j
 induction j with
 | zero=>intro _;simp[Bs,Dn,SW,Ws]
 | succ j ih=>
  intro hj;have he:es[j]? =some es[j]:=A1d (by omega);have ho:=(hv.ok j _ he).lt;rw[Of he,A1V,Mz he,RH he];have h1:=Rq j es[j] v (by omega);have h2:=ih (by omega)
  push_cast
  omega
theorem PH{N:Int}{es:List Pr}(hv:BX N es):∀{i j:Nat} {a b:Pr},i<j->es[i]? =some a->es[j]? =some b->Lex a b:=by
 intro i j
 induction j with
 | zero=>intro a b h;omega
 | succ j ih=>
  intro a b h ha hb;have hj:j<es.length:=by have:=(A1e.1 hb).1;omega
  have hc:es[j]? =some es[j]:=A1d hj;have hcb:=hv.up j _ _ hc hb;by_cases he:i=j
  .subst he;rw[ha] at hc;cases hc;exact hcb
  have hac:=ih (by omega) ha hc;unfold Lex at *;omega
theorem YE{N:Int}{es:List Pr}(hv:BX N es){j:Nat}{e:Pr}(h:es[j]? =some e):Ws es j e.2=0:=by
 unfold Ws;have:(es.take j).countP (fun x=>decide (x.1=e.2))=0:=by
  rw[A3v];intro x hx;obtain⟨i,hi⟩:=List.getElem?_of_mem hx;rw[A2j] at hi;split at hi
  .have:=PH hv ‹_› hi h;have:=(hv.ok j e h).lt;unfold Lex at *;simp;omega
  cases hi
 rw[this];rfl
theorem loV_all{N:Int}{es:List Pr}(hv:BX N es){j:Nat}{e:Pr}(h:es[j]? =some e):SW es j e.1=SW es es.length e.1:=by
 have key:∀d,j+d<=es.length->SW es (j+d) e.1=SW es j e.1:=by
  intro d
  induction d with
  | zero=>intro _;rfl
  | succ d ih=>
   intro hd;have hx:es[j+d]? =some es[j+d]:=A1d (by omega);rw[<-A3h,Mz hx,ih (by omega)];have ho:=(hv.ok _ _ hx).lt;have:¬es[j+d].2=e.1:=by
    by_cases h0:d=0
    .subst h0;simp only[A2x] at hx ho ⊢;rw[h] at hx;have:=Option.some.inj hx;rw[<-this] at ho ⊢;omega
    have:=PH hv (show j<j+d by omega) h hx;unfold Lex at this;omega
   rw[if_neg this];omega
 have hj:=(A1e.1 h).1;have:=key (es.length-j) (by omega);rw[show j+(es.length-j)=es.length by omega] at this;exact this.symm
theorem Wj{es:List Pr}{j:Nat}{e:Pr}(h:es[j]? =some e)(hne:e.1≠e.2):(Bs es e.2)[(Bs (es.take j) e.2).length]? =some (2*(j:Int)+1):=by
 rw[I6 h e.2,A1p (A1F _),A3j];simp[Wn,hne]
theorem Wk{es:List Pr}{j:Nat}{e:Pr}(h:es[j]? =some e):(Bs es e.1)[(Bs (es.take j) e.1).length]? =some (2*(j:Int)):=by
 rw[I6 h e.1,A1p (A1F _),A3j];simp[Wn]
theorem Hc:∀(es:List Pr) (k:Nat) (v:Int),(Dn k es v).Pairwise (·<·)/\∀h,h∈Dn k es v->2*(k:Int)<=h
 | [],k,v=>by simp[Dn]
 | e::r,k,v=>by
  obtain⟨h1,h2⟩:=Hc r (k+1) v;unfold Dn;refine⟨?_,?_⟩
  .rw[A2s];refine⟨by split<;>(try split)<;>simp,h1,fun a ha b hb=>?_⟩;have:=h2 b hb;split at ha
   .simp at ha;subst ha;push_cast at this;omega
   split at ha
   .simp at ha;subst ha;push_cast at this;omega
   simp at ha
  intro h hh;rw[A1C] at hh;rcases hh with hh|hh
  .split at hh
   .simp at hh;omega
   split at hh
   .simp at hh;omega
   simp at hh
  have:=h2 h hh;push_cast at this;omega
theorem Wi{es:List Pr}{v h:Int}{i j:Nat}(hi:(Bs es v)[i]? =some h)(hj:(Bs es v)[j]? =some h):i=j:=by
 have hp:=(Hc es 0 v).1;have a:=A1e.1 hi;have b:=A1e.1 hj;obtain⟨ha,ea⟩:=a;obtain⟨hb,eb⟩:=b;rcases Nat.lt_trichotomy i j with hlt|heq|hgt
 .have:=(A2t.1 hp) i j ha hb hlt;unfold Bs at ea eb;omega
 .exact heq
 have:=(A2t.1 hp) j i hb ha hgt;unfold Bs at ea eb;omega
theorem Ot{w0:World}{K:List Nat}{L:List Chunk}{g t:Nat}{xs:List Int}[h:Find L g t (AA xs).toArray]:Jl w0 K L ⟨g,0,none⟩ (AA xs):=
 AW (cs:=(AA xs).toArray) (by simp only[List.drop_zero];exact A1T)
theorem Bi{b t n:Nat}{f g:Nat->Int}(h:∀i,i<n->f i=g i):AC b t (AA (BA n f)).toArray=AC b t (AA (BA n g)).toArray:=by rw[DE h]
theorem Hu{b t n:Nat}{f g:Nat->Int}{sp:List Value}(h:∀i,i<n->f i=g i):AC b t (AA (BA n f)++sp).toArray=AC b t (AA (BA n g)++sp).toArray:=by rw[DE h]
theorem IZ(g n:Nat)(f:Nat->Int):sl g (BA n f)= .slice (some ⟨g,0,none⟩) n n:=by simp[sl]
theorem Ml{N:Int}{es:List Pr}(hv:BX N es){v k:Nat}(hvN:(v:Int)<N)(hk:k<(Bs es v).length):pre es v+k<es.length*2:=by
 have h1:pre es (v+1)<=es.length*2:=Tt hv (by omega);have h2:pre es (v+1)=pre es v+(Bs es v).length:=rfl;omega
theorem Wb{es:List Pr}{v v' k k':Nat}(hk:k<(Bs es v).length)(hk':k'<(Bs es v').length)(h:pre es v+k=pre es v'+k'):v=v'/\k=k':=by
 have e1:pre es (v+1)=pre es v+(Bs es v).length:=rfl;have e2:pre es (v'+1)=pre es v'+(Bs es v').length:=rfl;rcases Nat.lt_trichotomy v v' with hlt|heq|hgt
 .have:=JF es (show v+1<=v' by omega);omega
 .subst heq;exact⟨rfl,by omega⟩
 have:=JF es (show v'+1<=v by omega);omega
def Xc(es:List Pr)(D:Int->Prop)(fo fp:Nat->Int):Prop:=
 ∀(v k:Nat) (h:Int),(Bs es v)[k]? =some h->D h->fo (pre es v+k).toNat=h/\fp h.toNat=pre es v+k
theorem Xc.put{N:Int}{es:List Pr}(hv:BX N es){D:Int->Prop}{fo fp:Nat->Int}(hd:Xc es D fo fp){v k:Nat}{h:Int}(hk:(Bs es v)[k]? =some h):
  Xc es (fun x=>D x\/x=h) (upd fo (pre es v+k).toNat h) (upd fp h.toNat (pre es v+k)):=by
 intro v' k' h' hk' hD;have hl:=(A1e.1 hk).1;have hl':=(A1e.1 hk').1;have hm:=(Bb hv).1 (A1h hk);have hm':=(Bb hv).1 (A1h hk');have p0:=En es v;have p0':=En es v';by_cases he:h'=h
 .subst he;have hvv:v=v':=by have:=hm.2.2;have:=hm'.2.2;omega
  subst hvv;obtain rfl:=Wi hk hk';simp[upd]
 have hDh:D h':=hD.resolve_right he;obtain⟨a1,a2⟩:=hd v' k' h' hk' hDh;have n1:(pre es v'+k').toNat≠(pre es v+k).toNat:=by
  intro e;have e2:pre es v'+k'=pre es v+k:=by omega
  obtain⟨rfl,rfl⟩:=Wb hl' hl e2;rw[hk] at hk';exact he (Option.some.inj hk').symm
 have n2:h'.toNat≠h.toNat:=by omega
 exact⟨by simp only[upd,if_neg n1];exact a1,by simp only[upd,if_neg n2];exact a2⟩
theorem Xc.imp{es:List Pr}{D D':Int->Prop}{fo fp:Nat->Int}(hd:Xc es D fo fp)(h:∀(v:Nat) x,x∈Bs es v->D' x->D x):Xc es D' fo fp:=
 fun v k x hk hx=>hd v k x hk (h v x (A1h hk) hx)
def FD(w:World)(v:Value)(xs:List Int):Prop:=
 ∃A cap,v= .slice A xs.length cap/\Rd w A (AA xs)/\xs.length<=cap/\cap<=9223372036854775807/\xs.length<=17592186044416
def DX(w:World)(v:Value)(es:List Pr):Prop:=
 ∃A cap,v= .slice A es.length cap/\Rd w A (Cj es)/\es.length<=cap/\cap<=9223372036854775807/\es.length<=8796093021952
section
variable{P:Program}{ops:Array Oper}{w0 w:World}{K:List Nat}{n:Nat}{ds:List Deferred}{E:Env}{L F:List Chunk}{o:Oper}{x y z:Operand}{v u:Value}
theorem FD.keep0{xs:List Int}(h:FD w0 v xs)(hw:AR w0 [] w L):FD w v xs:=by
 obtain⟨A,cap,rfl,hr,h1,h2,h3⟩:=h;exact⟨A,cap,rfl,hr.keep0 hw,h1,h2,h3⟩
theorem DX.keep0{es:List Pr}(h:DX w0 v es)(hw:AR w0 [] w L):DX w v es:=by
 obtain⟨A,cap,rfl,hr,h1,h2,h3⟩:=h;exact⟨A,cap,rfl,hr.keep0 hw,h1,h2,h3⟩
theorem Ft{t m:Nat}{vs:List Value}(hw:AR w0 K w (Bf v t m vs::F)):∃A len cap,v= .slice A len cap/\vs.length=len*m/\Rd w A vs/\len<=cap/\cap<=9223372036854775807:=by
 rcases DA hw with⟨rfl,rfl,_⟩|⟨g,len,cap,sp,rfl,h1,h2,h3,h4,hO⟩
 .exact⟨none,0,0,rfl,by simp,fun j u h=>by simp at h,A1F _,by omega⟩
 refine⟨_,_,_,rfl,h1,fun j u h=>⟨_,rfl,?_⟩,h2,h3⟩;have:=hO.holds _ (A1m ..);rw[AX,cell_of_row w g _ _ t (0,0) this];have hj:=(A1e.1 h).1;simpa [A1o hj] using h
theorem C7{t:Nat}{xs:List Int}(hw:AR w0 K w L)(i:Nat)(h:L[i]? =some (Bf v t 1 (AA xs)))(hf:xs.length<=17592186044416):FD w v xs:=by
 have hp:=Bj h;obtain⟨A,len,cap,rfl,h1,hr,h2,h3⟩:=Ft (hw.perm hp.symm);simp at h1;subst h1;exact⟨A,cap,rfl,hr,h2,h3,hf⟩
theorem FG{t:Nat}{es:List Pr}(hw:AR w0 K w L)(i:Nat)(h:L[i]? =some (Bf v t 2 (Cj es)))(hf:es.length<=8796093021952):DX w v es:=by
 have hp:=Bj h;obtain⟨A,len,cap,rfl,h1,hr,h2,h3⟩:=Ft (hw.perm hp.symm);simp at h1;obtain rfl:es.length=len:=by omega
 exact⟨A,cap,rfl,hr,h2,h3,hf⟩
/-! ### results that lie in a cell -/
theorem GF{t:Nat}{ty:TypeId}{g:Nat}{cs:Array Value}{w:World}(hg:w.heap[g]? =some (.cells cs t (0,0)))(ht:CG P ty=some true)(hs:BD P ty=some cs.size):
  (loadVar ty ⟨g,0,none⟩).run P w= .ok (.agg cs) w:=by
 unfold CG at ht;cases hu:P.underlying ty with
 | none=>rw[hu] at ht;cases ht
 | some d=>
  rw[hu] at ht;refine run_loadVar_row w g t ty cs (0,0) d hg hu ?_ hs;cases d<;>simp_all
theorem Co{fn:Func}{p:Tmp}{ty:TypeId}{g t:Nat}{cs:Array Value}{C:Value->List Chunk->Prop}{e:Exit}(he:e= .ret\/e= .normal)(hr:fn.results=#[.cell p ty])
 (hv:ev n E (.tmp p)=some (.pointer (some ⟨g,0,none⟩)))[h:Find L g t cs](ht:CG P ty=some true)(hs:BD P ty=some cs.size)(hR:∃L',(∀w,AR w0 K w L->AR w0 K w L')/\C (.agg cs) L'):
  Dl w0 K n [] (bodyPost P fn (Ret w0 K C) e) E L:=by
 intro a w ha hO;obtain⟨L',hL,hC⟩:=hR;have hg:=hO.holds _ h.mem;have hp:a.tmps.getD p undef= .pointer (some ⟨g,0,none⟩):=by have:=ha.ev hv;simpa only[Act.eval] using this
 have h1:a.defers=[]/\∃v,(results fn a.tmps).run P w= .ok v w/\Ret w0 K C (.returned v) w:=by
  refine⟨ha.defers,_,?_,.agg cs,L',rfl,hC,hL w hO⟩;have hp':a.tmps[p]?.getD undef= .pointer (some ⟨g,0,none⟩):=by simpa using hp
  simp[results,hr,hp',asAddr,GF hg ht hs]
 rcases he with rfl|rfl<;>exact h1
theorem DI{fn:Func}{p q:Tmp}{ty:TypeId}{g t:Nat}{cs:Array Value}{C:Value->List Chunk->Prop}{e:Exit}(he:e= .ret\/e= .normal)(hr:fn.results=#[.cell p ty,.tmp q])
 (hv:ev n E (.tmp p)=some (.pointer (some ⟨g,0,none⟩)))(hq:ev n E (.tmp q)=some u)[h:Find L g t cs](ht:CG P ty=some true)(hs:BD P ty=some cs.size)(hR:∃L',(∀w,AR w0 K w L->AR w0 K w L')/\C (.tuple #[.agg cs,u]) L'):
  Dl w0 K n [] (bodyPost P fn (Ret w0 K C) e) E L:=by
 intro a w ha hO;obtain⟨L',hL,hC⟩:=hR;have hg:=hO.holds _ h.mem;have hp:a.tmps.getD p undef= .pointer (some ⟨g,0,none⟩):=by have:=ha.ev hv;simpa only[Act.eval] using this
 have hq':a.tmps.getD q undef=u:=by have:=ha.ev hq;simpa only[Act.eval] using this
 have h1:a.defers=[]/\∃v,(results fn a.tmps).run P w= .ok v w/\Ret w0 K C (.returned v) w:=by
  refine⟨ha.defers,_,?_,.tuple #[.agg cs,u],L',rfl,hC,hL w hO⟩;rw[results_cell_tmp hr,hp,hq'];simp[asAddr,GF hg ht hs,Result.andThen]
 rcases he with rfl|rfl<;>exact h1
/-! ### append to a new empty slice -/
def P6(v:Value)(g e m:Nat)(news:List Value):Chunk:=
 ⟨if news=[] then[] else v.ownBlock.toList,fun w=>if news=[] then v= .slice (some ⟨g,0,none⟩) 0 0 else(Bf v e m news).holds w,
   fun w w' h hh=>by
  by_cases hn:news=[]
  .simp only[if_pos hn] at hh ⊢;exact hh
  simp only[if_neg hn] at h hh ⊢;exact(Bf v e m news).loc w w' h hh⟩
theorem UY{g e m:Nat}{news:List Value}(hm:0<m)(hw:AR w0 K w (P6 v g e m news::AC g e #[]::F)):AR w0 K w (Bf v e m news::F):=by
 by_cases hn:news=[]
 .subst hn;have hv:v= .slice (some ⟨g,0,none⟩) 0 0:=by have:=hw.holds _ (A1m ..);simpa [P6] using this
  subst hv;exact Ca (cs:=#[]) (len:=0) (by simp) hm (A1F _) (by omega) (by simp) (by simp) (hw.sub (A1k ..))
 have h1:AR w0 K w (P6 v g e m news::F):=hw.sub ((A1k _ _).cons_cons _);exact LB (by simp[P6,Bf,if_neg hn]) (fun w hh=>by simpa [P6,if_neg hn] using hh) h1
theorem ap0_of{g e m:Nat}{news:List Value}(hn:news≠[])(hw:AR w0 K w (Bf v e m news::F)):AR w0 K w (P6 v g e m news::F):=
 LB (by simp[P6,Bf,if_neg hn]) (fun w hh=>by simpa [P6,if_neg hn] using hh) hw
theorem N8{t e m b k g:Nat}{zv yv:Value}{news:List Value}(ho:o.op= .call ⟨.builtin .append,#[x,y],#[t,t]⟩)(hx:ev n E x=some (.slice (some ⟨g,0,none⟩) 0 0))(hy:ev n E y=some yv)
 (ht:P.underlying t=some (.slice e))(hm:BD P e=some m)(hb:Ee P e=some b)(hz:B2 P e=some zv)(hzs:zv.cells.size=m)(hm0:0<m)(hb0:0<b)
 (hn:Src w0 K L yv k news)(hk:news.length=k*m)(hfit:k*b<=140737488355328):A0o P w0 K n ds E L o (fun v' M=>(∃A l c,v'= .slice A l c)/\M=[P6 v' g e m news]):=by
 intro a w ha hw;obtain⟨i,hi,e1,e2,e3⟩:=LJ hm hb hz;subst e1 e2;have hrun:∀v' w1,(Builtin.append_ #[t,t] o.type #[.slice (some ⟨g,0,none⟩) 0 0,yv]).run P w= .ok v' w1->AR w [] w1 [P6 v' g e i.size news]->(∃A l c,v'= .slice A l c)->
   B1 P (execOp a.eval o) w (fun v w'=>∃L',((∃A l c,v= .slice A l c)/\L'=[P6 v g e i.size news])/\AR w [] w' L'):=by
  intro v' w1 hr hO hsh;unfold B1;have:(execOp a.eval o).run P w= .ok (.value v') w1:=by
   simp[execOp,ho,resolve,ha.ev hx,ha.ev hy,invoke,builtin,hr]
  rw[this];exact⟨_,⟨hsh,rfl⟩,hO⟩
 by_cases hk0:k=0
 .subst hk0;have hn0:news=[]:=A1s (by simpa using hk);subst hn0;have h0:AR w [] w [P6 (.slice (some ⟨g,0,none⟩) 0 0) g e i.size []]:=by
   refine⟨rfl,rfl,rfl,Lo.refl _,A1F _,fun _ _ _=>rfl,by simp[P6],by simp[P6],by simp[P6],fun c hc=>?_⟩;simp at hc;subst hc;simp[P6]
  rcases hn with⟨ad,c,rfl,_⟩|⟨c,rfl,_,_⟩
  .refine hrun (.slice (some ⟨g,0,none⟩) 0 0) w ?_ h0 ⟨_,_,_,rfl⟩;simp[Builtin.append_,run_underlying ht,sizeOf,typeInfo,hi,Builtin.lenOf,Builtin.firstCells,loadCells,loadCellsFrom,storeCells]
  exact hrun _ w (HV ht hm (A1F _)) h0 ⟨_,_,_,rfl⟩
 have hkb:k<=k*i.bytes:=Nat.le_mul_of_pos_right _ hb0;rcases hn with⟨ad,c,rfl,hnews⟩|⟨c,rfl,rfl,rfl⟩
 .have hnews':=hnews w hw;have hne:news≠[]:=by
   intro en;have h1:=congrArg List.length en;rw[hk,A2H] at h1;rcases Nat.mul_eq_zero.1 h1 with h1|h1<;>omega
  have hr:=run_append_grow (P:=P) w t o.type e i zv ht hi e3 ⟨g,0,none⟩ 0 0 [] (by simp) (by intro j u hj;simp at hj) ad k c news hk hnews' (by omega) (by omega) (growslice_fits (by omega) (by rw[A2d];exact hfit));refine hrun _ _ hr ?_ ⟨_,_,_,rfl⟩;have h5:=grownCap_ge w (0+k) 0 e;have hO:=(B8 w []).drew.alloc e ([]++news++(Builtin.zeroCells zv.cells (grownCap w (0+k) 0 e-(0+k))).toList).toArray;have:=Ca (len:=k) (cap:=grownCap w (0+k) 0 e) (vs:=news) (by rw[hk]) hm0 (by omega)
   (by have:=grownCap_le_maxLen w (0+k) 0 e (by simp only[maxLen];omega);simp only[maxLen] at this;omega)
   (by simp only[List.size_toArray,A1V,A2H,A3e,size_zeroCells,hzs,hk,A2d,<-A3f];congr 1;simp only[A2d] at h5;omega)
   (by simp only[A1N,<-hk];exact A2T) hO;have e5:([]++news++(Builtin.zeroCells zv.cells (grownCap w (0+k) 0 e-(0+k))).toList).toArray=([]:List Value).toArray++news.toArray++Builtin.zeroCells zv.cells (grownCap w (0+k) 0 e-(0+k)):=by apply Array.ext';simp
  rw[e5] at this;refine ap0_of hne ?_;simp only[A2d] at this ⊢;exact this
 exact absurd rfl hk0
/-! ### structs of two integers are compared -/
def TX(P:Program)(t:TypeId):Bool:=match P.underlying t with|some (.int _)=>true|_=>false
def H0(P:Program)(t:TypeId):Bool:=
 (match P.underlying t with
 | some (.struct fs)=>(match fs.toList with
  | [a,b]=>(a.name != "_")&&(b.name != "_")&&Nat.beq a.offset 0&&Nat.beq b.offset 1&&TX P a.type&&TX P b.type
  | _=>false)
 | _=>false)&& !P.stoodInHeld t&& !P.eqGuardType P.depth t
theorem C9{t:TypeId}{cs:Array Value}{i:Nat}{u:Value}(h:TX P t=true)(hi:cs[i]? =some u):(part t cs i).run P w= .ok u w:=by
 unfold TX at h;split at h
 .rename_i k hk;have:CG P t=some false:=by simp[CG,hk]
  simp[part,HW this,hi]
 cases h
theorem G5{t:TypeId}{k:IntKind}{a b:Int}(d:Nat)(h:TX P t=true):(Op.equalIn (d+1) t (.int k a) (.int k b)).run P w= .ok (a==b) w:=by
 unfold TX at h;split at h
 .rename_i k' hk;exact run_equalIn_int w d t k k' a b hk
 cases h
theorem GE{t:TypeId}{a b c d:Int}(h:H0 P t=true)(m:Nat):(Op.equalIn (m+2) t (.agg #[.int .i64 a,.int .i64 b]) (.agg #[.int .i64 c,.int .i64 d])).run P w= .ok (decide (a=c/\b=d)) w:=by
 unfold H0 at h;simp only[A1P,A3c] at h;obtain⟨⟨h1,h2⟩,h3⟩:=h;split at h1
 .rename_i fs hfs;split at h1
  .rename_i f g hl;simp only[A1P,bne_iff_ne,ne_eq] at h1;obtain⟨⟨⟨⟨⟨n1,n2⟩,o1⟩,o2⟩,i1⟩,i2⟩:=h1;have o1:=A2v o1;have o2:=A2v o2;have hff:P.fieldsOf t=fs:=by simp[Program.fieldsOf,hfs]
   rw[run_equalIn_struct w (m+1) t _ _ (by rw[hff];exact hfs) h2,hff,hl];simp only[Op.eqFields,ne_eq,n1,n2,not_false_eq_true,if_true,Sem.run_bind,o1,o2];rw[C9 (u:=.int .i64 a) i1 (by rfl),Result.andThen_ok,C9 (u:=.int .i64 c) i1 (by rfl),Result.andThen_ok,G5 m i1,Result.andThen_ok];by_cases hac:a=c
   .subst hac;simp only[beq_self_eq_true,Bool.not_true,A2u,if_false,Sem.run_bind];rw[C9 (u:=.int .i64 b) i2 (by rfl),Result.andThen_ok,C9 (u:=.int .i64 d) i2 (by rfl),Result.andThen_ok,G5 m i2,Result.andThen_ok];by_cases hbd:b=d
    .subst hbd;simp
    have:(b==d)=false:=by simpa using hbd
    simp[this,hbd]
   have:(a==c)=false:=by simpa using hac
   simp[this,hac]
  cases h1
 cases h1
theorem Se{op:BinOp}{t:TypeId}{xs ys:Array Value}(h:H0 P t=true):(eqGuard op t x y (.agg xs) (.agg ys)).run P w= .ok () w:=by
 unfold H0 at h;simp only[A1P,A3c] at h;exact run_eqGuard_agg w op t x y xs ys h.2
theorem FZ{t t':TypeId}{a b c d:Int}(ho:o.op= .binOp .neq t x y t')(hx:ev n E x=some (.agg #[.int .i64 a,.int .i64 b]))(hy:ev n E y=some (.agg #[.int .i64 c,.int .i64 d]))(h:H0 P t=true):
  EL P n ds E o (.bool (!decide (a=c/\b=d))):=by
 intro s w ha;have h2:=GE (P:=P) (w:=w) (a:=a) (b:=b) (c:=c) (d:=d) h 9998;simp only[execOp,ho,ha.ev hx,ha.ev hy,Sem.run_bind,Se h,run_neq_struct,h2,Result.andThen_ok,Sem.run_pure]
theorem EZ{t t':TypeId}{a b c d:Int}(ho:o.op= .binOp .eql t x y t')(hx:ev n E x=some (.agg #[.int .i64 a,.int .i64 b]))(hy:ev n E y=some (.agg #[.int .i64 c,.int .i64 d]))(h:H0 P t=true):
  EL P n ds E o (.bool (decide (a=c/\b=d))):=by
 intro s w ha;have h2:=GE (P:=P) (w:=w) (a:=a) (b:=b) (c:=c) (d:=d) h 9998;simp only[execOp,ho,ha.ev hx,ha.ev hy,Sem.run_bind,Se h,run_eql_struct,h2,Result.andThen_ok,Sem.run_pure]
theorem FN{t m:Nat}{vs:List Value}(hw:AR w0 K w (Bf v t m vs::F)):∃A l c,v= .slice A l c:=by
 rcases DA hw with⟨rfl,_⟩|⟨g,len,cap,sp,rfl,_⟩
 .exact⟨_,_,_,rfl⟩
 exact⟨_,_,_,rfl⟩
theorem SP.shape{t m:Nat}{vs:List Value}(h:SP P w0 K n ds E L o (fun v' M=>M=Bf v' t m vs::F)):SP P w0 K n ds E L o (fun v' M=>(∃A l c,v'= .slice A l c)/\M=Bf v' t m vs::F):=by
 intro a w ha hw;refine(h a w ha hw).mono ?_;rintro v w' ⟨L',rfl,hO⟩;exact⟨_,⟨FN hO,rfl⟩,hO⟩
theorem D7{f:FuncId}{xs:Array Operand}{ts:Array Nat}{vs:List Value}{cap:Array Value}{C:Value->List Chunk->Prop}{K':List Nat}{Lc F:List Chunk}(hf:BY P f)(ho:o.op= .call ⟨.value x,xs,ts⟩)
 (hx:ev n E x=some (.func (.func f) #[] cap))(hxs:Vl n E xs.toList=some vs)(hL:∀w,AR w0 K w L->AR w0 K w (Lc++F))(hK:∀k,k∈K'->k∈AY Lc)
 (hcon:∀w,AR w0 K w (Lc++F)->Calls P f (vs.toArray++cap) w (Ret w K' C)):SP P w0 K n ds E L o (fun v M=>∃L',C v L'/\M=L'++F):=by
 intro a w ha hw;unfold B1;rw[GG hf ho ha hx hxs];refine Calls.mono (hcon w (hL w hw)) ?_;rintro e w' ⟨v,L',he,hC,hO⟩;exact⟨v,he,L'++F,⟨L',hC,rfl⟩,AR.frame (hL w hw) hO hK⟩
theorem Dl.own{Qb:Act->World->Prop}{M:List Chunk}(hL:∀w,AR w0 K w L->AR w0 K w M)(h:Dl w0 K n ds Qb E M):Dl w0 K n ds Qb E L:=fun a w ha hw=>h a w ha (hL w hw)
theorem DC.own{Q:Exit->Act->World->Prop}{c:Code}{M:List Chunk}(hL:∀w,AR w0 K w L->AR w0 K w M)(h:DC P w0 K n ds Q c E M):DC P w0 K n ds Q c E L:=fun a w ha hw=>h a w ha (hL w hw)
theorem CN.own{Q:Exit->Act->World->Prop}{l:List Oper}{M:List Chunk}(hL:∀w,AR w0 K w L->AR w0 K w M)(h:CN P ops w0 K n ds Q l E M):CN P ops w0 K n ds Q l E L:=fun a w ha hw=>h a w ha (hL w hw)
theorem H3{t m:Nat}{vs:List Value}(i:Nat)(h:L[i]? =some (Bf v t m vs))(hw:AR w0 K w L):∃A l c,v= .slice A l c:=FN (hw.perm (Bj h).symm)
theorem DC.shape{Q:Exit->Act->World->Prop}{c:Code}{t m:Nat}{vs:List Value}(i:Nat)(hi:L[i]? =some (Bf v t m vs))(h:(∃A l c,v= .slice A l c)->DC P w0 K n ds Q c E L):DC P w0 K n ds Q c E L:=
 fun a w ha hw=>h (H3 i hi hw) a w ha hw
theorem Dl.shape{Qb:Act->World->Prop}{t m:Nat}{vs:List Value}(i:Nat)(hi:L[i]? =some (Bf v t m vs))(h:(∃A l c,v= .slice A l c)->Dl w0 K n ds Qb E L):Dl w0 K n ds Qb E L:=
 fun a w ha hw=>h (H3 i hi hw) a w ha hw
theorem Py{w:World}(g:Nat){t:Nat}{cs:Array Value}[h:Find L g t cs](hw:AR w0 K w L):w.heap[g]? =some (.cells cs t (0,0)):=hw.holds _ h.mem
theorem DZ{w:World}{g t len:Nat}{cs:Array Value}[h:Find L g t cs]{xs:List Int}(hw:AR w0 K w L)(hc:cs.toList=AA xs)(hl:xs.length=len)(hf:len<=17592186044416):FD w (.slice (some ⟨g,0,none⟩) len len) xs:=by
 subst hl;refine⟨_,_,rfl,fun j u hj=>⟨_,rfl,?_⟩,A1F _,by omega,hf⟩;rw[AX,cell_of_row w g _ cs t (0,0) (Py g hw),<-hj,<-hc];simp
theorem Ly{w:World}{g t len:Nat}{cs:Array Value}[h:Find L g t cs]{es:List Pr}(hw:AR w0 K w L)(hc:cs.toList=Cj es)(hl:es.length=len)(hf:len<=8796093021952):DX w (.slice (some ⟨g,0,none⟩) len len) es:=by
 subst hl;refine⟨_,_,rfl,fun j u hj=>⟨_,rfl,?_⟩,A1F _,by omega,hf⟩;rw[AX,cell_of_row w g _ cs t (0,0) (Py g hw),<-hj,<-hc];simp
theorem CN.shape{Q:Exit->Act->World->Prop}{l:List Oper}{t m:Nat}{vs:List Value}(i:Nat)(hi:L[i]? =some (Bf v t m vs))(h:(∃A l c,v= .slice A l c)->CN P ops w0 K n ds Q l E L):CN P ops w0 K n ds Q l E L:=
 fun a w ha hw=>h (H3 i hi hw) a w ha hw
end
def Jp(l:List UInt8):Value:=.string ⟨l.toArray⟩
theorem add_0(ad:Addr):ad.add 0=ad:=by simp[Addr.add]
section
variable{P:Program}{w0:World}{K:List Nat}{n:Nat}{ds:List Deferred}{E:Env}{L:List Chunk}{o:Oper}{x y z:Operand}{v u:Value}
theorem P2(a b:List UInt8):(⟨a.toArray⟩:ByteArray)++⟨b.toArray⟩=⟨(a++b).toArray⟩:=by
 apply ByteArray.ext;rw[ByteArray.data_append];simp
theorem Mn{t t':TypeId}{a b:List UInt8}(ho:o.op= .binOp .add t x y t')(hx:ev n E x=some (Jp a))(hy:ev n E y=some (Jp b))(hb:a.length+b.length<=9223372036854775807):EL P n ds E o (Jp (a++b)):=by
 intro a' w ha;have hg:(eqGuard .add t x y (Jp a) (Jp b)).run P w= .ok () w:=by unfold eqGuard;simp
 have hr:(binOp .add t (Jp a) (Jp b)).run P w= .ok (Jp (a++b)) w:=by
  have h1:¬(((⟨a.toArray⟩:ByteArray).size+(⟨b.toArray⟩:ByteArray).size:Nat):Int)>IntKind.i64.max:=by
   have:IntKind.i64.max=9223372036854775807:=by decide
   have e1:(⟨a.toArray⟩:ByteArray).size=a.length:=by simp[ByteArray.size]
   have e2:(⟨b.toArray⟩:ByteArray).size=b.length:=by simp[ByteArray.size]
   rw[this,e1,e2];omega
  simp only[binOp,Jp,Op.stringOp,h1,if_false,P2];rfl
 simp[execOp,ho,ha.ev hx,ha.ev hy,hg,hr]
theorem Fg{t a:TypeId}(ho:o.op= .typeAssert x t a true)(hx:ev n E x=some u)(hr:∀w,(Instr.typeAssert u t a true).run P w= .ok v w):EL P n ds E o v:=by
 intro a' w ha;simp[execOp,ho,ha.ev hx,hr]
theorem I4{t:TypeId}(ho:o.op= .makeInterface t x)(hx:ev n E x=some u)(hr:∀w,(Instr.makeInterface t u).run P w= .ok v w):EL P n ds E o v:=by
 intro a' w ha;simp[execOp,ho,ha.ev hx,hr]
theorem UT{op:BinOp}{t t' tt:TypeId}{b:Bool}(ho:o.op= .binOp op t x y t')(hx:ev n E x=some (.iface tt u))(hy:ev n E y=some .nilIface)(hr:∀w,(binOp op t (.iface tt u) .nilIface).run P w= .ok (.bool b) w):EL P n ds E o (.bool b):=by
 intro a w ha;have hg:(eqGuard op t x y (.iface tt u) .nilIface).run P w= .ok () w:=by
  unfold eqGuard;cases op<;>simp
 simp[execOp,ho,ha.ev hx,ha.ev hy,hg,hr]
theorem Rj{op:BinOp}{t t':TypeId}{b:Bool}(ho:o.op= .binOp op t x (.const .nilIface) t')(hx:ev n E x=some .nilIface)(hr:∀w,(binOp op t .nilIface .nilIface).run P w= .ok (.bool b) w):EL P n ds E o (.bool b):=by
 intro a w ha;have hg:(eqGuard op t x (.const .nilIface) .nilIface .nilIface).run P w= .ok () w:=by
  unfold eqGuard;cases op<;>simp
 have hy:a.eval (.const .nilIface)= .nilIface:=by simp[Act.eval]
 simp[execOp,ho,ha.ev hx,hy,hg,hr]
theorem Tj{f:FuncId}{name:String}{ts:Array Nat}{t:TypeId}{u u':Value}{a:Act}{w:World}(hf:BY P f)(ho:o.op= .call ⟨.invoke x name,#[],ts⟩)(ha:DM n ds E a)
 (hx:ev n E x=some (.iface t u))(hm:∀w,(method (P.types.size+Made.depth) t u name).run P w= .ok (f,u') w):(execOp a.eval o).run P w= .ok (.enter f #[u']) w:=by
 obtain⟨fn,h1,h2,h3⟩:=hf.go;have h4:¬fn.name = "runtime.NumGoroutine" := by simpa using h2
 have h5:¬fn.body=none:=fun e=>by rw[e] at h3;cases h3
 simp only[execOp,ho,resolve,ha.ev hx];simp[invoke,callMethod,hm,callFunc,h1,h4,h5]
theorem Q9{f:FuncId}{name:String}{ts:Array Nat}{t:TypeId}{u u':Value}{C:Value->List Chunk->Prop}(hf:BY P f)(ho:o.op= .call ⟨.invoke x name,#[],ts⟩)
 (hx:ev n E x=some (.iface t u))(hm:∀w,(method (P.types.size+Made.depth) t u name).run P w= .ok (f,u') w)(hcon:∀w,AR w0 K w L->Calls P f #[u'] w (Ret w [] C)):A0o P w0 K n ds E L o C:=by
 intro a w ha hw;unfold B1;rw[Tj hf ho ha hx hm];refine Calls.mono (hcon w hw) ?_;rintro e w' ⟨v,L',he,hC,hO⟩;exact⟨v,he,L',hC,hO⟩
theorem X3{fn:Func}{t u v:Tmp}(h:fn.results=#[.tmp t,.tmp u,.tmp v])(tmps:Array Value)(w:World):
  (results fn tmps).run P w= .ok (.tuple #[tmps.getD t undef,tmps.getD u undef,tmps.getD v undef]) w:=by simp[results,h]
theorem Cw{fn:Func}{t u s:Tmp}{v1 v2 v3:Value}{C:Value->List Chunk->Prop}{e:Exit}(he:e= .ret\/e= .normal)(hr:fn.results=#[.tmp t,.tmp u,.tmp s])(hv1:ev n E (.tmp t)=some v1)
 (hv2:ev n E (.tmp u)=some v2)(hv3:ev n E (.tmp s)=some v3)(hC:C (.tuple #[v1,v2,v3]) L):Dl w0 K n [] (bodyPost P fn (Ret w0 K C) e) E L:=by
 intro a w ha hO;have h1:a.defers=[]/\∃v,(results fn a.tmps).run P w= .ok v w/\Ret w0 K C (.returned v) w:=by
  refine⟨ha.defers,_,X3 hr _ _,_,L,rfl,?_,hO⟩;have h1:=ha.ev hv1;have h2:=ha.ev hv2;have h3:=ha.ev hv3;simp only[Act.eval] at h1 h2 h3;rw[h1,h2,h3];exact hC
 rcases he with rfl|rfl<;>exact h1
end
theorem own_below{w w':World}(h:RowKit.Below w.heap.size w w'):AR w [] w' []:=
 ⟨h.os,h.tape,h.output,.inl trivial,h.size,fun k hk _=>h.block k hk,by simp,by simp,by simp,by simp⟩
theorem ZI{x y z:Value}(h1:x.oneCell'=true)(h2:y.oneCell'=true)(h3:z.oneCell'=true):(Value.agg #[x,y,z]).cells=#[x,y,z]:=rfl
def IM(w:World)(v:Value)(ls:List (List Int)):Prop:=
 ∃A cap,v= .slice A ls.length cap/\(∀(i:Nat) l,ls[i]? =some l->∃ad lv,A=some ad/\w.cell? (ad.add i)=some lv/\FD w lv l)/\ls.length<=cap/\cap<=9223372036854775807/\ls.length<=17592186044416
section
variable{w0 w:World}{L:List Chunk}{v:Value}
theorem IM.keep0{ls:List (List Int)}(h:IM w0 v ls)(hw:AR w0 [] w L):IM w v ls:=by
 obtain⟨A,cap,rfl,hr,h1,h2,h3⟩:=h;refine⟨A,cap,rfl,fun i l hi=>?_,h1,h2,h3⟩;obtain⟨ad,lv,rfl,hc,hs⟩:=hr i l hi;refine⟨ad,lv,rfl,?_,hs.keep0 hw⟩;rw[hw.oldCell (World.block_lt_of_cell? w0 _ hc) (by simp)];exact hc
end
/-! ### what a certificate's text may hold -/
def Ik(n:Int):Prop:=0<=n/\n<=999999999
def A0d(l:List Int):Prop:=∀(i:Nat) n a,l[i]? =some n->l[0]? =some a->Ik n/\a<=n
def Kg(ls:List (List Int)):Prop:=ls.length<=1048576/\∀(i:Nat) l,ls[i]? =some l->A0d l
structure FK (es:List Pr):Prop where
 few:es.length<=4194304
 ok:∀(i:Nat) e,es[i]? =some e->Ik e.1/\Ik e.2/\e.1<e.2
 up:∀(i:Nat) a b,es[i]? =some a->es[i+1]? =some b->Lex a b
theorem Bw:BD A1c 3=some 1:=by kernel_rfl
theorem Fz:Ee A1c 3=some 8:=by kernel_rfl
theorem C6:B2 A1c 3=some (.int .i64 0):=by kernel_rfl
theorem CA:CG A1c 3=some false:=by kernel_rfl
theorem sz4:BD A1c 4=some 1:=by kernel_rfl
theorem by4:Ee A1c 4=some 1:=by kernel_rfl
theorem ze4:B2 A1c 4=some (.bool false):=by kernel_rfl
theorem Um:CG A1c 4=some false:=by kernel_rfl
theorem sz5:BD A1c 5=some 1:=by kernel_rfl
theorem ze5:B2 A1c 5=some (.int .u8 0):=by kernel_rfl
theorem ag5:CG A1c 5=some false:=by kernel_rfl
theorem sz9:BD A1c 9=some 1:=by kernel_rfl
theorem by9:Ee A1c 9=some 16:=by kernel_rfl
theorem ze9:B2 A1c 9=some (.string ⟨#[]⟩):=by kernel_rfl
theorem ag22:CG A1c 22=some false:=by kernel_rfl
theorem G2:BD A1c 24=some 2:=by kernel_rfl
theorem SX:B2 A1c 24=some (.agg #[.int .i64 0,.slice none 0 0]):=by kernel_rfl
theorem IL:CG A1c 24=some true:=by kernel_rfl
theorem sz25:BD A1c 25=some 1:=by kernel_rfl
theorem ze25:B2 A1c 25=some (.slice none 0 0):=by kernel_rfl
theorem Z0:CG A1c 25=some false:=by kernel_rfl
theorem XG:BD A1c 27=some 3:=by kernel_rfl
theorem ze27:B2 A1c 27=some (.agg #[.bool false,.slice none 0 0,.slice none 0 0]):=by kernel_rfl
theorem ag27:CG A1c 27=some true:=by kernel_rfl
theorem sz29:BD A1c 29=some 1:=by kernel_rfl
theorem ze29:B2 A1c 29=some (.int .i64 0):=by kernel_rfl
theorem W1:CG A1c 29=some false:=by kernel_rfl
theorem ET:BD A1c 37=some 1:=by kernel_rfl
theorem Sx:Ee A1c 37=some 24:=by kernel_rfl
theorem Gq:B2 A1c 37=some (.slice none 0 0):=by kernel_rfl
theorem D8:CG A1c 37=some false:=by kernel_rfl
theorem CF:BD A1c 39=some 2:=by kernel_rfl
theorem ZM:Ee A1c 39=some 16:=by kernel_rfl
theorem Fs:B2 A1c 39=some (.agg #[.int .i64 0,.int .i64 0]):=by kernel_rfl
theorem Hw:CG A1c 39=some true:=by kernel_rfl
theorem sz46:BD A1c 46=some 3:=by kernel_rfl
theorem ze46:B2 A1c 46=some (.agg #[.int .i64 0,.nilFunc,.int .i64 0]):=by kernel_rfl
theorem ag46:CG A1c 46=some true:=by kernel_rfl
theorem G1:BD A1c 51=some 2:=by kernel_rfl
theorem VO:B2 A1c 51=some (.agg #[.int .i64 0,.int .i64 0]):=by kernel_rfl
theorem Ig:CG A1c 51=some true:=by kernel_rfl
theorem XF:BD A1c 58=some 4:=by kernel_rfl
theorem ze58:B2 A1c 58=some (.agg #[.slice none 0 0,.slice none 0 0,.slice none 0 0,.slice none 0 0]):=by kernel_rfl
theorem ag58:CG A1c 58=some true:=by kernel_rfl
theorem sz62:BD A1c 62=some 4:=by kernel_rfl
theorem ze62:B2 A1c 62=some (.agg #[.slice none 0 0,.slice none 0 0,.slice none 0 0,.slice none 0 0]):=by kernel_rfl
theorem ag62:CG A1c 62=some true:=by kernel_rfl
theorem A0E:BD A1c 66=some 1:=by kernel_rfl
theorem sz71:BD A1c 71=some 1:=by kernel_rfl
theorem Ta:BD A1c 73=some 2:=by kernel_rfl
theorem ze73:B2 A1c 73=some (.agg #[.int .i64 0,.slice none 0 0]):=by kernel_rfl
theorem W0:CG A1c 73=some true:=by kernel_rfl
theorem ze86:B2 A1c 86=some (.slice none 0 0):=by kernel_rfl
theorem ag86:CG A1c 86=some false:=by kernel_rfl
theorem No:BD A1c 94=some 3:=by kernel_rfl
theorem VN:B2 A1c 94=some (.agg #[.int .i64 0,.slice none 0 0,.slice none 0 0]):=by kernel_rfl
theorem NH:CG A1c 94=some true:=by kernel_rfl
theorem sz97:BD A1c 97=some 1:=by kernel_rfl
theorem ze97:B2 A1c 97=some (.pointer none):=by kernel_rfl
theorem ag97:CG A1c 97=some false:=by kernel_rfl
theorem sz102:BD A1c 102=some 1:=by kernel_rfl
theorem ag102:CG A1c 102=some false:=by kernel_rfl
theorem ze104:B2 A1c 104=some (.agg #[.slice none 0 0]):=by kernel_rfl
theorem QK:BD A1c 107=some 2:=by kernel_rfl
theorem by107:Ee A1c 107=some 16:=by kernel_rfl
theorem ze107:B2 A1c 107=some (.agg #[.int .i64 0,.int .i64 0]):=by kernel_rfl
theorem ag107:CG A1c 107=some true:=by kernel_rfl
theorem NV:BD A1c 129=some 2:=by kernel_rfl
theorem by129:Ee A1c 129=some 16:=by kernel_rfl
theorem Xp:B2 A1c 129=some (.agg #[.int .i64 0,.int .i64 0]):=by kernel_rfl
theorem CE:BD A1c 134=some 2:=by kernel_rfl
theorem ze134:B2 A1c 134=some (.agg #[.int .i64 0,.int .i64 0]):=by kernel_rfl
theorem Dp:CG A1c 134=some true:=by kernel_rfl
theorem Eg:BD A1c 136=some 4:=by kernel_rfl
theorem ZN:Ee A1c 136=some 32:=by kernel_rfl
theorem Gf:B2 A1c 136=some (.agg #[.int .i64 0,.int .i64 0,.int .i64 0,.int .i64 0]):=by kernel_rfl
theorem M5:CG A1c 136=some true:=by kernel_rfl
theorem sz139:BD A1c 139=some 1:=by kernel_rfl
theorem ze139:B2 A1c 139=some (.slice none 0 0):=by kernel_rfl
theorem ag139:CG A1c 139=some false:=by kernel_rfl
theorem ze143:B2 A1c 143=some (.agg #[.int .i64 0,.slice none 0 0,.bool false,.int .i64 0]):=by kernel_rfl
theorem Ev:BD A1c 146=some 4:=by kernel_rfl
theorem by146:Ee A1c 146=some 32:=by kernel_rfl
theorem NQ:B2 A1c 146=some (.agg #[.int .i64 0,.int .i64 0,.int .i64 0,.int .i64 0]):=by kernel_rfl
theorem ag146:CG A1c 146=some true:=by kernel_rfl
theorem XI:BD A1c 149=some 2:=by kernel_rfl
theorem by149:Ee A1c 149=some 16:=by kernel_rfl
theorem NP:B2 A1c 149=some (.agg #[.int .i64 0,.int .i64 0]):=by kernel_rfl
theorem ze166:B2 A1c 166=some (.agg #[.pointer none,.slice none 0 0]):=by kernel_rfl
theorem ze183:B2 A1c 183=some (.slice none 0 0):=by kernel_rfl
theorem ag183:CG A1c 183=some false:=by kernel_rfl
theorem ze205:B2 A1c 205=some (.agg #[.int .i64 0,.int .i64 0]):=by kernel_rfl
theorem ze222:B2 A1c 222=some (.agg #[.int .i64 0,.int .i64 0]):=by kernel_rfl
theorem XH:BD A1c 229=some 3:=by kernel_rfl
theorem LS:B2 A1c 229=some (.agg #[.int .i64 0,.int .i64 0,.int .i64 0]):=by kernel_rfl
theorem Z1:CG A1c 229=some true:=by kernel_rfl
theorem VB:CG A1c 273=some false:=by kernel_rfl
theorem T8:Ic A1c 39 0=some (0,3):=by kernel_rfl
theorem YY:Ic A1c 39 1=some (1,3):=by kernel_rfl
theorem Bo{f:FuncId}{fn:Func}(h:A1c.funcs[f]? =some fn)(h1:(fn.name == "runtime.NumGoroutine")=false:=by kernel_rfl)(h2:fn.body.isNone=false:=by kernel_rfl):BY A1c f:=⟨⟨_,h,h1,h2⟩⟩
theorem en4:BY A1c 4:=Bo Tryz.func4
theorem en5:BY A1c 5:=Bo Tryz.func5
theorem en6:BY A1c 6:=Bo Tryz.func6
theorem en7:BY A1c 7:=Bo Tryz.func7
theorem en8:BY A1c 8:=Bo Tryz.func8
theorem en9:BY A1c 9:=Bo Tryz.func9
theorem en10:BY A1c 10:=Bo Tryz.func10
theorem en11:BY A1c 11:=Bo Tryz.func11
theorem en12:BY A1c 12:=Bo Tryz.func12
theorem en13:BY A1c 13:=Bo Tryz.func13
theorem en15:BY A1c 15:=Bo Tryz.func15
theorem PV:BY A1c 16:=Bo Tryz.func16
theorem en17:BY A1c 17:=Bo Tryz.func17
theorem en18:BY A1c 18:=Bo Tryz.func18
theorem en19:BY A1c 19:=Bo Tryz.func19
theorem en20:BY A1c 20:=Bo Tryz.func20
theorem en21:BY A1c 21:=Bo Tryz.func21
theorem en22:BY A1c 22:=Bo Tryz.func22
theorem en23:BY A1c 23:=Bo Tryz.func23
theorem en24:BY A1c 24:=Bo Tryz.func24
theorem en25:BY A1c 25:=Bo Tryz.func25
theorem en26:BY A1c 26:=Bo Tryz.func26
theorem en29:BY A1c 29:=Bo Tryz.func29
theorem en30:BY A1c 30:=Bo Tryz.func30
theorem en31:BY A1c 31:=Bo Tryz.func31
theorem en32:BY A1c 32:=Bo Tryz.func32
theorem en33:BY A1c 33:=Bo Tryz.func33
theorem en34:BY A1c 34:=Bo Tryz.func34
theorem en35:BY A1c 35:=Bo Tryz.func35
theorem en36:BY A1c 36:=Bo Tryz.func36
theorem Y1:BY A1c 37:=Bo Tryz.func37
theorem en38:BY A1c 38:=Bo Tryz.func38
theorem en39:BY A1c 39:=Bo Tryz.func39
theorem en40:BY A1c 40:=Bo Tryz.func40
theorem en41:BY A1c 41:=Bo Tryz.func41
theorem en42:BY A1c 42:=Bo Tryz.func42
theorem en43:BY A1c 43:=Bo Tryz.func43
theorem en44:BY A1c 44:=Bo Tryz.func44
theorem en45:BY A1c 45:=Bo Tryz.func45
theorem Sf:BY A1c 46:=Bo Tryz.func46
theorem en47:BY A1c 47:=Bo Tryz.func47
theorem en48:BY A1c 48:=Bo Tryz.func48
theorem en49:BY A1c 49:=Bo Tryz.func49
theorem en50:BY A1c 50:=Bo Tryz.func50
theorem en51:BY A1c 51:=Bo Tryz.func51
theorem en52:BY A1c 52:=Bo Tryz.func52
theorem en53:BY A1c 53:=Bo Tryz.func53
theorem en54:BY A1c 54:=Bo Tryz.func54
theorem en55:BY A1c 55:=Bo Tryz.func55
theorem en56:BY A1c 56:=Bo Tryz.func56
theorem en57:BY A1c 57:=Bo Tryz.func57
theorem en58:BY A1c 58:=Bo Tryz.func58
theorem en59:BY A1c 59:=Bo Tryz.func59
theorem en60:BY A1c 60:=Bo Tryz.func60
theorem en61:BY A1c 61:=Bo Tryz.func61
theorem en68:BY A1c 68:=Bo Tryz.func68
theorem en69:BY A1c 69:=Bo Tryz.func69
theorem en70:BY A1c 70:=Bo Tryz.func70
theorem en71:BY A1c 71:=Bo Tryz.func71
theorem en72:BY A1c 72:=Bo Tryz.func72
theorem en73:BY A1c 73:=Bo Tryz.func73
theorem en74:BY A1c 74:=Bo Tryz.func74
theorem en75:BY A1c 75:=Bo Tryz.func75
theorem en76:BY A1c 76:=Bo Tryz.func76
theorem Lg:BY A1c 77:=Bo Tryz.func77
theorem en78:BY A1c 78:=Bo Tryz.func78
theorem en79:BY A1c 79:=Bo Tryz.func79
theorem en80:BY A1c 80:=Bo Tryz.func80
theorem en81:BY A1c 81:=Bo Tryz.func81
theorem en82:BY A1c 82:=Bo Tryz.func82
theorem en83:BY A1c 83:=Bo Tryz.func83
theorem en84:BY A1c 84:=Bo Tryz.func84
theorem en85:BY A1c 85:=Bo Tryz.func85
theorem en86:BY A1c 86:=Bo Tryz.func86
theorem en87:BY A1c 87:=Bo Tryz.func87
theorem Y0:BY A1c 88:=Bo Tryz.func88
theorem en89:BY A1c 89:=Bo Tryz.func89
theorem en90:BY A1c 90:=Bo Tryz.func90
theorem en91:BY A1c 91:=Bo Tryz.func91
theorem Uc:BY A1c 92:=Bo Tryz.func92
theorem en93:BY A1c 93:=Bo Tryz.func93
theorem en94:BY A1c 94:=Bo Tryz.func94
theorem en95:BY A1c 95:=Bo Tryz.func95
theorem en96:BY A1c 96:=Bo Tryz.func96
theorem en97:BY A1c 97:=Bo Tryz.func97
theorem en98:BY A1c 98:=Bo Tryz.func98
theorem en99:BY A1c 99:=Bo Tryz.func99
theorem Vr:BY A1c 100:=Bo Tryz.func100
theorem en101:BY A1c 101:=Bo Tryz.func101
theorem en102:BY A1c 102:=Bo Tryz.func102
theorem en103:BY A1c 103:=Bo Tryz.func103
theorem en106:BY A1c 106:=Bo Tryz.func106
theorem Y7:BY A1c 107:=Bo Tryz.func107
theorem en109:BY A1c 109:=Bo Tryz.func109
theorem en110:BY A1c 110:=Bo Tryz.func110
theorem en111:BY A1c 111:=Bo Tryz.func111
theorem en112:BY A1c 112:=Bo Tryz.func112
theorem en113:BY A1c 113:=Bo Tryz.func113
theorem en115:BY A1c 115:=Bo Tryz.func115
theorem en116:BY A1c 116:=Bo Tryz.func116
theorem en117:BY A1c 117:=Bo Tryz.func117
theorem en118:BY A1c 118:=Bo Tryz.func118
theorem en119:BY A1c 119:=Bo Tryz.func119
theorem Y6:BY A1c 120:=Bo Tryz.func120
theorem en121:BY A1c 121:=Bo Tryz.func121
theorem en122:BY A1c 122:=Bo Tryz.func122
theorem en123:BY A1c 123:=Bo Tryz.func123
theorem Vq:BY A1c 124:=Bo Tryz.func124
theorem en125:BY A1c 125:=Bo Tryz.func125
theorem Y5:BY A1c 127:=Bo Tryz.func127
theorem Vp:BY A1c 128:=Bo Tryz.func128
theorem en129:BY A1c 129:=Bo Tryz.func129
theorem en130:BY A1c 130:=Bo Tryz.func130
theorem Vo:BY A1c 131:=Bo Tryz.func131
theorem en143:BY A1c 143:=Bo Tryz.func143
theorem en145:BY A1c 145:=Bo Tryz.func145
theorem en146:BY A1c 146:=Bo Tryz.func146
theorem en147:BY A1c 147:=Bo Tryz.func147
theorem en148:BY A1c 148:=Bo Tryz.func148
theorem Y4:BY A1c 150:=Bo Tryz.func150
theorem JY:BY A1c 151:=Bo Tryz.func151
theorem Vn:BY A1c 152:=Bo Tryz.func152
theorem Y3:BY A1c 153:=Bo Tryz.func153
theorem en154:BY A1c 154:=Bo Tryz.func154
theorem en155:BY A1c 155:=Bo Tryz.func155
theorem en172:BY A1c 172:=Bo Tryz.func172
theorem en173:BY A1c 173:=Bo Tryz.func173
theorem Y2:BY A1c 174:=Bo Tryz.func174
theorem en181:BY A1c 181:=Bo Tryz.func181
theorem en182:BY A1c 182:=Bo Tryz.func182
theorem en183:BY A1c 183:=Bo Tryz.func183
theorem en189:BY A1c 189:=Bo Tryz.func189
theorem en212:BY A1c 212:=Bo Tryz.func212
theorem en213:BY A1c 213:=Bo Tryz.func213
theorem mixed:A1c.follows .mixedOrders=true:=by kernel_rfl
theorem Ul:Ce A1c 24=some ([(0,1),(1,1)],[.int .i64 0,.slice none 0 0]):=by kernel_rfl
theorem bs27:Ce A1c 27=some ([(0,1),(1,1),(2,1)],[.bool false,.slice none 0 0,.slice none 0 0]):=by kernel_rfl
theorem P3:Ce A1c 39=some ([(0,1),(1,1)],[.int .i64 0,.int .i64 0]):=by kernel_rfl
theorem WY:Ce A1c 46=some ([(0,1),(1,1),(2,1)],[.int .i64 0,.nilFunc,.int .i64 0]):=by kernel_rfl
theorem KM:Ce A1c 51=some ([(0,1),(1,1)],[.int .i64 0,.int .i64 0]):=by kernel_rfl
theorem bs58:Ce A1c 58=some ([(0,1),(1,1),(2,1),(3,1)],[.slice none 0 0,.slice none 0 0,.slice none 0 0,.slice none 0 0]):=by kernel_rfl
theorem bs62:Ce A1c 62=some ([(0,1),(1,1),(2,1),(3,1)],[.slice none 0 0,.slice none 0 0,.slice none 0 0,.slice none 0 0]):=by kernel_rfl
theorem bs68:Ce A1c 68=some ([(0,2),(2,4),(6,4),(10,1),(11,1),(12,1),(13,1),(14,1)],[.int .i64 0,.slice none 0 0,.slice none 0 0,.slice none 0 0,.slice none 0 0,.slice none 0 0,.slice none 0 0,.slice none 0 0,.slice none 0 0,.slice none 0 0,.slice none 0 0,.slice none 0 0,.slice none 0 0,.slice none 0 0,.slice none 0 0]):=by kernel_rfl
theorem ZR:Ce A1c 73=some ([(0,1),(1,1)],[.int .i64 0,.slice none 0 0]):=by kernel_rfl
theorem SB:Ce A1c 94=some ([(0,1),(1,1),(2,1)],[.int .i64 0,.slice none 0 0,.slice none 0 0]):=by kernel_rfl
theorem bs107:Ce A1c 107=some ([(0,1),(1,1)],[.int .i64 0,.int .i64 0]):=by kernel_rfl
theorem bs129:Ce A1c 129=some ([(0,1),(1,1)],[.int .i64 0,.int .i64 0]):=by kernel_rfl
theorem bs134:Ce A1c 134=some ([(0,1),(1,1)],[.int .i64 0,.int .i64 0]):=by kernel_rfl
theorem ZT:Ce A1c 136=some ([(0,2),(2,2)],[.int .i64 0,.int .i64 0,.int .i64 0,.int .i64 0]):=by kernel_rfl
theorem bs146:Ce A1c 146=some ([(0,1),(1,1),(2,1),(3,1)],[.int .i64 0,.int .i64 0,.int .i64 0,.int .i64 0]):=by kernel_rfl
theorem bs196:Ce A1c 196=some ([(0,1),(1,1),(2,1),(3,1)],[.slice none 0 0,.slice none 0 0,.slice none 0 0,.slice none 0 0]):=by kernel_rfl
theorem Vx:Ce A1c 205=some ([(0,1),(1,1)],[.int .i64 0,.int .i64 0]):=by kernel_rfl
theorem bs209:Ce A1c 209=some ([(0,1),(1,1),(2,1)],[.slice none 0 0,.int .i64 0,.slice none 0 0]):=by kernel_rfl
theorem bs222:Ce A1c 222=some ([(0,1),(1,1)],[.int .i64 0,.int .i64 0]):=by kernel_rfl
theorem bs275:Ce A1c 275=some ([(0,1),(1,1),(2,1)],[.slice none 0 0,.slice none 0 0,.int .i64 0]):=by kernel_rfl
instance:Tab A1c where
 f:=[(24,0,0,3),(24,1,1,22),(27,0,0,4),(27,1,1,25),(27,2,2,22),(39,0,0,3),(39,1,1,3),(46,0,0,3),(46,1,1,44),(46,2,2,29),(51,0,0,29),(58,0,0,37),(58,1,1,37),(58,2,2,37),(58,3,3,37),(62,0,0,37),(62,1,1,37),(62,2,2,37),(62,3,3,25),(68,0,0,24),(68,1,2,58),(68,2,6,62),(68,3,10,66),(68,4,11,37),(68,5,12,37),(68,6,13,37),(68,7,14,37),(73,0,0,3),(73,1,1,71),(80,0,0,41),(80,1,1,3),(80,2,2,3),(94,2,2,25),(104,0,0,102),(107,0,0,3),(107,1,1,3),(129,0,0,3),(129,1,1,3),(134,0,0,3),(134,1,1,3),(136,0,0,134),(136,1,2,134),(143,0,0,73),(143,1,2,4),(143,2,3,3),(146,0,0,144),(146,1,1,3),(146,3,3,3),(166,0,0,164),(166,1,1,41),(196,0,0,37),(196,1,1,37),(196,2,2,37),(196,3,3,37),(205,0,0,3),(205,1,1,29),(209,0,0,41),(209,1,1,3),(209,2,2,139),(222,0,0,3),(222,1,1,29),(229,0,0,3),(229,1,1,3),(229,2,2,3),(275,0,0,273),(275,1,1,37),(275,2,2,3)]
 u:=[(22,39),(25,37),(37,3),(41,5),(42,46),(47,3),(66,136),(71,149),(86,37),(102,107),(130,129),(139,146),(183,4),(215,37),(216,39),(217,9),(273,3)]
 a:=[3,4,5,9,22,25,29,37,41,44,66,71,86,97,102,139,144,164,183,254,267,273]
 s:=[(3,1),(4,1),(5,1),(9,1),(22,1),(24,2),(25,1),(27,3),(29,1),(37,1),(39,2),(41,1),(44,1),(46,3),(51,2),(58,4),(62,4),(66,1),(68,15),(71,1),(73,2),(80,3),(86,1),(94,3),(97,1),(102,1),(104,1),(107,2),(129,2),(134,2),(136,4),(139,1),(143,4),(144,1),(146,4),(149,2),(164,1),(166,2),(183,1),(196,4),(205,2),(209,3),(222,2),(229,3),(254,1),(267,1),(273,1),(275,3),(284,24),(290,20),(292,32),(293,64)]
 g:=[24,27,39,46,51,58,62,68,73,80,94,104,107,129,134,136,143,146,149,166,196,205,209,222,229,275,284,290,292,293]
 hf:=by kernel_rfl
 hu:=by kernel_rfl
 ha:=by kernel_rfl
 hs:=by kernel_rfl
 hg:=by kernel_rfl
 mx:=by kernel_rfl
theorem NE(a b c d:Int)(w:World)(h:0<=a/\a<=1048576/\0<=b/\b<=1048576/\0<=c/\c<=1048576/\0<=d/\d<=1048576):
  Calls A1c 29 #[.agg #[Iv a,Iv b],.agg #[Iv c,Iv d]] w (Ret w [] fun v L=>L=[]/\v= Iv (if a=c then b-d else a-c)):=by
 refine cO Tryz.func29 Tryz.ntmps29<|Zs ?_;refine ZB fun g2=>?_;refine ZB fun g3=>?_;refine Za<|Zx<|Ai<|Zs ?_;refine Zz [1,1,1]<|Zx ?_;refine Zd ?_ ?_<;>intro c1
 .refine Zs<|Zz [1,1,2]<|Zx<|At<|Ad ?_;refine DN 4 ?_;refine Zh ?_;exact⟨J,by rw[if_neg (by simpa using c1)]⟩
 refine Ao<|Aa<|Zs<|Zz [1,1,2]<|Zx<|At ?_;refine DN 4 ?_;refine Zh ?_;exact⟨J,by rw[if_pos (by simpa using c1)]⟩
theorem Fc(N:Int)(es:List Pr)(A:Option Addr)(cap:Nat)(w:World)(hr:Rd w A (Cj es))(hl:es.length<=9223372036854775807):
  Calls A1c 16 #[.agg #[Iv N,.slice A es.length cap]] w (Ret w [] fun v L=>L=[]/\∃b,v= .bool b/\(b=true↔BX N es)):=by
 refine cO Tryz.func16 Tryz.ntmps16<|Zs ?_;refine ZB fun g1=>?_;refine Za<|Zx<|Ai<|Zs ?_;refine Zz [1,2] ?_;refine AM 8 J (fun k1_3=>?_) (fun k1_3=>?_)
 .refine Zz [10]<|Zx ?_;refine Bn J<|Zs ?_;refine Za<|Zx<|At<|Ad ?_;refine DN 2 ?_;refine Zh ?_;exact⟨rfl,false,rfl,by simp;intro h;have:=h.lo;simp at k1_3;omega⟩
 refine Zz [1,3] ?_;refine AM 13 J (fun k1_8=>?_) (fun k1_8=>?_)
 .refine Zz [5]<|Zx ?_;refine Bn J<|Zs ?_;refine Za<|Zx<|At<|Ad ?_;refine DN 2 ?_;refine Zh ?_;exact⟨rfl,false,rfl,by simp;intro h;have:=h.hi;simp at k1_8;omega⟩
 refine Zz [1,3]<|Zx ?_;refine Zd ?_ ?_<;>intro c1
 .refine Zs<|Za<|Zx<|At<|Ad ?_;refine DN 2 ?_;refine Zh ?_;exact⟨rfl,false,rfl,by simp;intro h;have:=h.few;simp at c1;omega⟩
 refine Ao<|Aa<|Ai<|Zs<|Zz [1,2]<|Zx<|As ?_;refine AS (ι:=Nat) (fun i=>i<=es.length/\(∀(j:Nat) e,j<i->es[j]? =some e->OkE N e)/\(∀(j:Nat) a b,j+1<i->es[j]? =some a->es[j+1]? =some b->Lex a b))
  (fun i=>[(1,Pv g1),(20,.slice A es.length cap),(21,Iv es.length),(22,Iv i)])
  (fun i=>[AC g1 24 #[Iv N,.slice A es.length cap]]) (fun i=>es.length-i) 0 ⟨A1E _,fun _ _ h=>absurd h (A1w _),fun _ _ _ h=>absurd h (A1w _)⟩
  ⟨rfl,rfl,rfl,rfl,trivial⟩ (Bg .nil) ?_;rintro i ⟨hi,hok,hup⟩;refine Zs<|Zc<|Zx<|Ai ?_;refine Zd ?_ ?_<;>intro c4
 .have hlt:i<es.length:=by simpa using c4
  obtain⟨e,he⟩:∃e,es[i]? =some e:=⟨_,A1d hlt⟩;obtain⟨ad,rfl,hU,hV⟩:=hr.pair he;refine Ao<|Aa<|Ai<|As<|Zs<|Zm ?_;refine Zo (Bz J J J A1y CF (by omega) (by omega) (by first|exact AX _ _|exact Cm _ _ _|rfl)) ?_;refine Zu (A4 (vs:=[_,_]) J J Hw CF J (Fm hU hV (by simp))) ?_;refine ZA Fs fun g4=>?_;refine Za ?_;refine Zq #[_,_]<|Zx<|Ai ?_;refine Fv 41100010000000101000010100010 32 ?_;refine Yz [1,2] ?_;refine BF.split 30 J (fun k6_3=>?_) (fun k6_3=>?_)
  .refine Yz [28] ?_;refine AF J ?_;simp only[zq,zr];refine Aa ?_;refine Bn J<|Zs ?_;refine Za<|Zx<|At<|Am<|Ad<|Ad<|Am<|Ad ?_;refine DN 2 ?_;refine Zh ?_;exact⟨rfl,false,rfl,by simp;intro h;have:=(h.ok i e he).lo;simp at k6_3;omega⟩
  refine Yz [1,1,3] ?_;refine BF.split 37 J (fun k6_10=>?_) (fun k6_10=>?_)
  .refine Yz [21] ?_;refine AF J ?_;simp only[zq,zr];refine Aa ?_;refine Bn J<|Zs ?_;refine Za<|Zx<|At<|Am<|Ad<|Ad<|Am<|Ad ?_;refine DN 2 ?_;refine Zh ?_;exact⟨rfl,false,rfl,by simp;intro h;have:=(h.ok i e he).lt;simp at k6_10;omega⟩
  refine Yz [1,1,3] ?_;refine BF.split 44 J (fun k6_17=>?_) (fun k6_17=>?_)
  .refine Yz [14] ?_;refine AF J ?_;simp only[zq,zr];refine Aa ?_;refine Bn J<|Zs ?_;refine Za<|Zx<|At<|Am<|Ad<|Ad<|Am<|Ad ?_;refine DN 2 ?_;refine Zh ?_;exact⟨rfl,false,rfl,by simp;intro h;have:=(h.ok i e he).hi;simp at k6_17;omega⟩
  refine Yz [3] ?_;refine BF.split 47 J (fun k6_20=>?_) (fun k6_20=>?_)
  .have hpos:0<i:=by simpa using k6_20
   obtain⟨d,hd⟩:∃d,es[i-1]? =some d:=⟨_,A1d (by omega)⟩;obtain⟨ad',h',hU',hV'⟩:=hr.pair hd;cases h';have h1:=hok (i-1) d (by omega) hd;have h1a:=h1.lo;have h1b:=h1.lt;have h1c:=h1.hi;have h2a:0<=e.1:=by simpa using k6_3
   have h2b:e.1<e.2:=by simpa using k6_10
   have h2c:e.2<N:=by simpa using k6_17
   have h3:N<=1048576:=by simpa using k1_8
   have hii:((i:Int)-1).toNat=i-1:=by omega
   refine Yz [1,2] ?_;refine Yo J (Bz (ad':=ad.add ((i-1)*2)) J J J A1y CF (by omega) (by omega) (by rw[hii])) ?_;refine Bp J J J J (A4 (vs:=[_,_]) J J Hw CF J (Fm hU' hV' (by simp))) ?_;refine Bp J J J J (A4 (vs:=[_,_]) J J Hw CF J (AW J)) ?_;refine BF.rel0 J J J J (AH en29 J J J (fun w hw=>NE d.1 d.2 e.1 e.2 w (by omega))) ?_;rintro _ rfl;refine Yz [3] ?_;refine AF J ?_;simp only[zq,zr];refine Aa ?_;refine Zd ?_ ?_<;>intro c6
   .refine Zs<|Za<|Zx<|At<|Am<|Ad<|Ad<|Am<|Ad ?_;refine DN 2 ?_;refine Zh ?_;refine⟨rfl,false,rfl,by simp;intro h;have:=h.up (i-1) d e hd (by rw[show i-1+1=i by omega];exact he);unfold Lex at this;simp at c6;split at c6<;>omega⟩
   refine Ao<|An<|Aa<|Ak<|Zz [2]<|Az ?_;refine AB (i+1) (by omega) ⟨by omega,?_,?_⟩ ⟨J,J,J,J,trivial⟩ (BC .nil)
   .intro j x hj hx;rcases A1i.1 hj with hj|rfl
    .exact hok j x hj hx
    rw[he] at hx;cases hx;exact⟨h2a,h2b,h2c⟩
   intro j a b hj ha hb;rcases A1i.1 hj with hj|hj
   .exact hup j a b hj ha hb
   obtain rfl:j=i-1:=by omega
   rw[hd] at ha;cases ha;rw[show i-1+1=i by omega,he] at hb;cases hb;unfold Lex;simp at c6;split at c6<;>omega
  refine Yz [11] ?_;refine AF J ?_;simp only[zq,zr];refine Aa ?_;refine BN J<|Ao<|An<|Aa<|Ak ?_;refine Zz [2]<|Az ?_;have h0:i=0:=by simp at k6_20;omega
  subst h0;have h2a:0<=e.1:=by simpa using k6_3
  have h2b:e.1<e.2:=by simpa using k6_10
  have h2c:e.2<N:=by simpa using k6_17
  refine AB 1 (by omega) ⟨by omega,?_,?_⟩ ⟨J,J,J,J,trivial⟩ (BC .nil)
  .intro j x hj hx;obtain rfl:j=0:=by omega
   rw[he] at hx;cases hx;exact⟨h2a,h2b,h2c⟩
  intro j a b hj;omega
 refine AN<|Ag<|Ag<|Aq<|Aa<|Zs<|Za<|Zx<|At ?_;refine DN 2 ?_;refine Zh ?_;have hie:i=es.length:=by simp at c4;omega
 subst hie;refine⟨J,true,J,by simp;exact⟨by simpa using k1_3,by simpa using k1_8,by simp at c1;omega,fun j e hj=>hok j e (A1e.1 hj).1 hj,fun j a b ha hb=>hup j a b (A1e.1 hb).1 ha hb⟩⟩
abbrev AV(w:World):=Xi w 196 3
section
variable{N:Int}{es:List Pr}{M:Jo}{p:Option Addr}{w:World}
theorem VF(h:AV w N es M p):Calls A1c 117 #[.pointer p] w (Ret w [] fun v L=>L=[]/\v= Iv N):=by
 refine cO Tryz.func117 Tryz.ntmps117<|Zs ?_;refine Za<|Zx<|Ai<|Zs ?_;refine Zm ?_;refine Zo (Od J J J Tryz.underlying97)<|Zx ?_;refine Zd ?_ ?_<;>intro c1
 .cases h with
  | «at» hA hP=>cases c1
  | nil hN he=>
  refine Zs<|Za<|Zx<|At<|Ad ?_;refine Zh ?_;subst hN;exact⟨rfl,rfl⟩
 cases h with
 | nil hN he=>cases c1
 | «at» hA hP=>
 have hlo:=hP.vld.lo;have hhi:=hP.vld.hi;have hsl:=hP.stl;refine Ao<|Aa<|Zs<|Zz [3] ?_;refine Zu (AG J J D8 (Bh hA.hp J)) ?_;refine Zz [3]<|Zx<|At ?_;refine Zh ?_;exact⟨J,by congr 1;omega⟩
theorem VG(h:AV w N es M p):Calls A1c 38 #[.pointer p] w (Ret w [] fun v L=>L=[]/\v= Iv es.length):=by
 refine cO Tryz.func38 Tryz.ntmps38<|Zs ?_;refine Za<|Zx<|Ai<|Zs ?_;refine Zm ?_;refine Zo (Od J J J Tryz.underlying97)<|Zx ?_;refine Zd ?_ ?_<;>intro c1
 .cases h with
  | «at» hA hP=>cases c1
  | nil hN he=>
  refine Zs<|Za<|Zx<|At<|Ad ?_;refine Zh ?_;subst he;exact⟨rfl,rfl⟩
 cases h with
 | nil hN he=>cases c1
 | «at» hA hP=>
 have hlo:=hP.vld.few;have hsl:=hP.fr;have hfl:M.fr.length=es.length*2:=by rw[hsl,Cz]
 refine Ao<|Aa<|Zs<|Zz [3] ?_;refine Zu (AG J J D8 (Bh hA.hp J)) ?_;refine Zz [1] ?_;refine Zo (Gi J J J (by omega) (by omega)) ?_;refine Za<|Zx<|At ?_;refine Zh ?_;exact⟨J,by congr 1;omega⟩
theorem OW(h:AV w N es M p)(x:Int):Calls A1c 155 #[.pointer p,Iv x] w (Ret w [] fun v L=>L=[]/\v= .bool (decide (0<=x/\x<N))):=by
 refine cO Tryz.func155 Tryz.ntmps155<|Zs ?_;refine Za<|Zx<|Zs ?_;refine Zz [3] ?_;refine AM 7 J (fun k1_2=>?_) (fun k1_2=>?_)
 .refine Zz [2] ?_;refine AL J J (AH en117 J J J (fun w' hw=>VF (h.keep hw))) ?_;rintro _ rfl;refine Zz [3]<|Zx<|At ?_;refine Zh ?_;exact⟨J,by simp at k1_2;simp[k1_2]⟩
 refine Zz [6]<|Zx<|At ?_;refine Zh ?_;exact⟨J,by simp at k1_2;simp;omega⟩
theorem Jc(h:AV w N es M p)(x:Int):Calls A1c 89 #[.pointer p,Iv x] w (Ret w [] fun v L=>L=[]/\v= .bool (decide (0<=x/\x<es.length*2))):=by
 have hfew:=h.vld.few;refine cO Tryz.func89 Tryz.ntmps89<|Zs ?_;refine Za<|Zx<|Zs ?_;refine Zz [3] ?_;refine AM 7 J (fun k1_2=>?_) (fun k1_2=>?_)
 .refine Zz [2] ?_;refine AL J J (AH en38 J J J (fun w' hw=>VG (h.keep hw))) ?_;rintro _ rfl;refine Zo (Dz J J J (by omega)) ?_;refine Zz [3]<|Zx<|At ?_;refine Zh ?_;exact⟨J,by simp at k1_2;congr 1;rw[decide_eq_decide];omega⟩
 refine Zz [7]<|Zx<|At ?_;refine Zh ?_;exact⟨J,by simp at k1_2;simp;omega⟩
def LeaveV(N:Int)(es:List Pr)(M:Jo)(x:Int)(v:Value):Prop:=
 ∃A cap,v= .slice A (Bs es x).length cap/\(Bs es x).length<=cap/\cap<=9223372036854775807/\(0<(Bs es x).length->∃s,0<=x/\x<N/\M.st[x.toNat]? =some s/\A=some ⟨M.g2,s.toNat,none⟩)
theorem RO(h:AV w N es M p)(x:Int):Calls A1c 121 #[.pointer p,Iv x] w (Ret w [] fun v L=>L=[]/\LeaveV N es M x v):=by
 have hfew:=h.vld.few;have hNhi:=h.vld.hi;refine cO Tryz.func121 Tryz.ntmps121<|Zs ?_;refine Za<|Zx<|Ai<|Zs ?_;refine Zz [2] ?_;refine AL J J (AH en155 J J J (fun w' hw=>OW (h.keep hw) x)) ?_;rintro _ rfl;refine Zz [1]<|Zx ?_;refine Zd ?_ ?_<;>intro c1
 .refine Zs<|Za<|Zx<|At<|Ad ?_;refine Zh ?_;have h0:=Mr h.vld (v:=x) (by simp at c1;omega);exact⟨J,none,0,by rw[h0];rfl,by simp[h0],by omega,by simp[h0]⟩
 have hx:0<=x/\x<N:=by simpa using c1
 cases h with
 | nil hN he=>omega
 | «at» hA hP=>
 obtain⟨hx0,hx1⟩:=hx;obtain⟨vx,rfl⟩:=A1n hx0;have hstl:=hP.stl;have houl:=hP.oul;obtain⟨s,hs⟩:∃s,M.st[vx]? =some s:=⟨_,A1d (by omega)⟩;have hs2:=hP.stn vx s hx1 hs;have b1:=hP.bd _ _ hs;have b2:=hP.bd _ _ hs2;obtain⟨sn,rfl⟩:=A1n b1.1;refine Ao<|Aa<|Ai ?_;refine Fv 1000100010010001000 21 ?_;refine Yz [3] ?_;refine Yh (Bh hA.hp J) ?_;refine Yz [3] ?_;refine Yh (Bh hA.hp J) ?_;refine Ym ?_;refine Yi A1x Bw ?_;refine Yh (Bh hA.h1 (Br hs)) ?_;refine Yz [3] ?_;refine Yh (Bh hA.hp J) ?_;refine Yz [2] ?_;refine Yi A1x Bw ?_;refine Yh (Bh hA.h1 (Br hs2)) ?_;refine Yo J (A0S (lo:=sn) (hi:=sn+(Bs es vx).length) J J J J A1x Bw (by omega) (by omega)) ?_;refine Yz [1] ?_;refine AF J ?_;simp only[zq,zr];refine Aa<|At ?_;refine Zh ?_;refine⟨J,_,_,by rw[show sn+(Bs es (vx:Int)).length-sn=(Bs es (vx:Int)).length by omega],by omega,by omega,fun hpos=>⟨sn,hx0,hx1,hs,?_⟩⟩;rw[if_neg (by omega)];simp[Cm]
theorem EN(h:AV w N es M p)(x:Int):Calls A1c 88 #[.pointer p,Iv x] w (Ret w [] fun v L=>L=[]/\v= Iv (Bs es x).length):=by
 refine cO Tryz.func88 Tryz.ntmps88<|Zs ?_;refine Za<|Zx<|Zs ?_;refine Zz [2] ?_;refine AL J J (AH en121 J J J (fun w' hw=>RO (h.keep hw) x)) ?_;rintro _ ⟨A,cap,rfl,hcap,hmax,hA⟩;refine Zz [2]<|Zx<|At ?_;refine Zh ?_;exact⟨J,J⟩
theorem Dw(h:AV w N es M p)(x:Int):Calls A1c 151 #[.pointer p,Iv x] w (Ret w [] fun v L=>L=[]/\v= Iv (Aj es x)):=by
 refine cO Tryz.func151 Tryz.ntmps151<|Zs ?_;refine Za<|Zx<|Ai<|Zs ?_;refine Zz [2] ?_;refine AL J J (AH en89 J J J (fun w' hw=>Jc (h.keep hw) x)) ?_;rintro _ rfl;refine Zz [1]<|Zx ?_;refine Zd ?_ ?_<;>intro c1
 .refine Zs<|Za<|Zx<|At<|Ad ?_;refine Zh ?_;exact⟨J,by rw[Ow es (by simp at c1;omega)]⟩
 have hx:0<=x/\x<es.length*2:=by simpa using c1
 cases h with
 | nil hN he=>subst he;simp at hx;omega
 | «at» hA hP=>
 have hfl:M.fr.length=es.length*2:=by rw[hP.fr,Cz]
 obtain⟨y,hy,hf⟩:=Ia es hx.1 hx.2;rw[<-hP.fr] at hy;refine Ao<|Aa<|Zs<|Zz [3] ?_;refine Zu (AG J J D8 (Bh hA.hp J)) ?_;refine Zz [2] ?_;refine Zu (AG J J CA (Bh hA.h0 (Br hy))) ?_;refine Za<|Zx<|At ?_;refine Zh ?_;exact⟨J,by rw[hf]⟩
theorem Fp(h:AV w N es M p)(x:Int):Calls A1c 46 #[.pointer p,Iv x] w (Ret w [] fun v L=>L=[]/\v= Iv (AD es x)):=by
 have hfew:=h.vld.few;refine cO Tryz.func46 Tryz.ntmps46<|Zs ?_;refine Za<|Zx<|Ai<|Zs ?_;refine Zz [2] ?_;refine AL J J (AH en89 J J J (fun w' hw=>Jc (h.keep hw) x)) ?_;rintro _ rfl;refine Zz [1]<|Zx ?_;refine Zd ?_ ?_<;>intro c1
 .refine Zs<|Za<|Zx<|At<|Ad ?_;refine Zh ?_;exact⟨J,by rw[A0C es (by simp at c1;omega)]⟩
 have hx:0<=x/\x<es.length*2:=by simpa using c1
 cases h with
 | nil hN he=>subst he;simp at hx;omega
 | «at» hA hP=>
 have hfl:M.fr.length=es.length*2:=by rw[hP.fr,Cz]
 have htw:=FW hx.1 hx.2;obtain⟨y,hy,hf⟩:=Ia es htw.1 htw.2;rw[<-hP.fr] at hy;have htw':=htw;unfold tw at htw';refine Ao<|Aa<|Zs<|Zz [3] ?_;refine Zu (AG J J D8 (Bh hA.hp J)) ?_;refine Zm ?_;refine Zo (Pq J J J (by omega)) ?_;refine Zo (B4 (ad':=⟨M.g0,(tw x).toNat,none⟩) J J J A1x Bw htw'.1 (by have:=htw'.2;omega) (by rw[AX];simp[tw])) ?_;refine Zu (AG J J CA (Bh hA.h0 (Br hy))) ?_;refine Za<|Zx<|At ?_;refine Zh ?_;exact⟨J,by unfold AD;rw[if_pos hx.1,hf]⟩
theorem K8(h:AV w N es M p)(x:Int):Calls A1c 41 #[.pointer p,Iv x] w (Ret w [] fun v L=>L=[]/\v= Iv ((Bs es x)[0]?.getD (-1))):=by
 have hfew:=h.vld.few;refine cO Tryz.func41 Tryz.ntmps41<|Zs ?_;refine Za<|Zx<|Ai<|Zs ?_;refine Zz [2] ?_;refine AL J J (AH Y0 J J J (fun w' hw=>EN (h.keep hw) x)) ?_;rintro _ rfl;refine Zz [1]<|Zx ?_;refine Zd ?_ ?_<;>intro c1
 .refine Zs<|Za<|Zx<|At<|Ad ?_;refine Zh ?_;have h0:Bs es x=[]:=by simpa using c1
  exact⟨J,by rw[h0];rfl⟩
 have h0:Bs es x≠[]:=by simpa using c1
 have hx:0<=x/\x<N:=Classical.byContradiction fun hn=>h0 (Mr h.vld hn);cases h with
 | nil hN he=>omega
 | «at» hA hP=>
 obtain⟨hx0,hx1⟩:=hx;obtain⟨vx,rfl⟩:=A1n hx0;have hstl:=hP.stl;have houl:=hP.oul;have hlen:0<(Bs es vx).length:=A2k.2 h0;obtain⟨s,hs⟩:∃s,M.st[vx]? =some s:=⟨_,A1d (by omega)⟩;have b1:=hP.bd _ _ hs;obtain⟨sn,rfl⟩:=A1n b1.1;obtain⟨y,hy⟩:∃y,(Bs es (vx:Int))[0]? =some y:=⟨_,A1d hlen⟩;obtain⟨ho,_⟩:=hP.ou vx _ hx1 hs 0 y hy;have hin:=(A1e.1 ho).1;simp only[A1g,A2x] at ho hin;refine Ao<|Aa<|Ai ?_;refine Fv 1010010001000 14 ?_;refine Yz [3] ?_;refine Yh (Bh hA.hp J) ?_;refine Yz [3] ?_;refine Yh (Bh hA.hp J) ?_;refine Ym ?_;refine Yi A1x Bw ?_;refine Yh (Bh hA.h1 (Br hs)) ?_;refine Yi A1x Bw ?_;refine Yh (Bh hA.h2 (Br ho)) ?_;refine Yz [1] ?_;refine AF J ?_;simp only[zq,zr];refine Aa<|At ?_;refine Zh ?_;exact⟨J,by rw[hy];rfl⟩
theorem La(h:AV w N es M p)(x:Int):Calls A1c 45 #[.pointer p,Iv x] w (Ret w [] fun v L=>L=[]/\∃r,v= Iv r/\
  (∀(u:Int) (k:Nat),(Bs es u)[k]? =some x->r=(Bs es u)[k+1]?.getD (-1))/\(¬(0<=x/\x<es.length*2)->r= -1)):=by
 have hfew:=h.vld.few;refine cO Tryz.func45 Tryz.ntmps45<|Zs ?_;refine Za<|Zx<|Ai<|Zs ?_;refine Zz [2] ?_;refine AL J J (AH en89 J J J (fun w' hw=>Jc (h.keep hw) x)) ?_;rintro _ rfl;refine Zz [1]<|Zx ?_;refine Zd ?_ ?_<;>intro c1
 .refine Zs<|Za<|Zx<|At<|Ad ?_;refine Zh ?_;have hx:¬(0<=x/\x<es.length*2):=by simp at c1;omega
  refine⟨J,-1,J,fun u k hk=>?_,fun _=>rfl⟩;have:=(Bb h.vld).1 (A1h hk);exact absurd ⟨this.1,this.2.1⟩ hx
 have hx:0<=x/\x<es.length*2:=by simpa using c1
 cases h with
 | nil hN he=>subst he;simp at hx;omega
 | «at» hA hP=>
 have hfl:M.fr.length=es.length*2:=by rw[hP.fr,Cz]
 have hstl:=hP.stl;have houl:=hP.oul;have hpll:=hP.pll;have hhi:=hP.vld.hi;obtain⟨y,hy,hf⟩:=Ia es hx.1 hx.2;rw[<-hP.fr] at hy;have hmem:=(Bb hP.vld).2 ⟨hx.1,hx.2,hf⟩;obtain⟨k,hk⟩:=List.getElem?_of_mem hmem;have hyr:0<=y/\y<N:=Classical.byContradiction fun hn=>by rw[Mr hP.vld hn] at hk;simp at hk
 obtain⟨vx,rfl⟩:=A1n hyr.1;obtain⟨s,hs⟩:∃s,M.st[vx]? =some s:=⟨_,A1d (by omega)⟩;have hs2:=hP.stn vx s hyr.2 hs;have b1:=hP.bd _ _ hs;have b2:=hP.bd _ _ hs2;obtain⟨sn,rfl⟩:=A1n b1.1;obtain⟨ho,hpl⟩:=hP.ou vx _ hyr.2 hs k x hk;have hkl:=(A1e.1 hk).1;have huniq:∀(u:Int) (j:Nat),(Bs es u)[j]? =some x->u=vx/\j=k:=by
  intro u j hj;have hu:=(Bb hP.vld).1 (A1h hj);have:u=vx:=by rw[<-hu.2.2,hf]
  subst this;have h2:=(hP.ou vx _ hyr.2 hs j x hj).2;rw[hpl] at h2;have:=Option.some.inj h2;exact⟨J,by omega⟩
 refine Ao<|Aa<|Zs<|Zz [3] ?_;refine Zu (AG J J D8 (Bh hA.hp J)) ?_;refine Zz [2] ?_;refine Zu (AG J J CA (Bh hA.h3 (Br hpl))) ?_;refine Zz [2]<|Zx<|Ai<|Ai ?_;refine Fv 100100100010000 16 ?_;refine Yz [4] ?_;refine Yh (Bh hA.hp J) ?_;refine Yz [3] ?_;refine Yh (Bh hA.hp J) ?_;refine Ym ?_;refine Yi A1x Bw ?_;refine Yh (Bh hA.h0 (Br hy)) ?_;refine Yz [1] ?_;refine Yi A1x Bw ?_;refine Yh (Bh hA.h1 (Br hs2)) ?_;refine Yz [1] ?_;refine AF J ?_;simp only[zq,zr];refine Aa ?_;refine Zd ?_ ?_<;>intro c4
 .refine Zs<|Za<|Zx<|At<|Ad ?_;refine Zh ?_;have hlast:k+1=(Bs es (vx:Int)).length:=by simp at c4;omega
  refine⟨J,-1,J,fun u j hj=>?_,fun hn=>absurd hx hn⟩;obtain⟨rfl,rfl⟩:=huniq u j hj;rw[A1u (by omega)];rfl
 have hnl:k+1<(Bs es (vx:Int)).length:=by simp at c4;omega
 obtain⟨z,hz⟩:∃z,(Bs es (vx:Int))[k+1]? =some z:=⟨_,A1d hnl⟩;obtain⟨ho2,_⟩:=hP.ou vx _ hyr.2 hs (k+1) z hz;have hin:=(A1e.1 ho2).1;simp only[A1g] at ho2 hin;refine Ao<|Aa<|Zs<|Zz [3] ?_;refine Zu (AG J J D8 (Bh hA.hp J)) ?_;refine Zm ?_;refine Zi (ad':=⟨M.g2,sn+(k+1),none⟩) A1x Bw ?_ (he:=by rw[AX];first|rfl|(congr 1;omega));refine Zu (AG J J CA (Bh hA.h2 (Br ho2))) ?_;refine Za<|Zx<|At ?_;refine Zh ?_;refine⟨J,z,J,fun u j hj=>?_,fun hn=>absurd hx hn⟩;obtain⟨rfl,rfl⟩:=huniq u j hj;rw[hz];rfl
end
def Pj(gn ga gp g0 g1 gx g2 g3 capx:Nat)(fr st nx ou pl:List Int)(sp:List Value):List Chunk:=
 [AC gn 37 #[.slice (So gx) nx.length capx],AC ga 97 #[Pv gp],AC gp 196 #[sl g0 fr,sl g1 st,sl g2 ou,sl g3 pl],
   AC g0 3 (AA fr).toArray,AC gx 3 (AA nx++sp).toArray,AC g2 3 (AA ou).toArray,AC g3 3 (AA pl).toArray]
theorem N9{gn ga gp g0 g1 gx g2 g3 capx:Nat}{fr st nx ou pl:List Int}{sp:List Value}{h u p:Int}{w:World}
 (hO:AR w (AY (Pj gn ga gp g0 g1 gx g2 g3 capx fr st nx ou pl sp)) w (Pj gn ga gp g0 g1 gx g2 g3 capx fr st nx ou pl sp))
 (h0:0<=h)(hfr:fr[h.toNat]? =some u)(hu:0<=u)(hnx:nx[u.toNat]? =some p)(hp0:0<=p)(hp1:p.toNat<ou.length)(hh:h.toNat<pl.length)(hb:p<9223372036854775807):
  Calls A1c 87 #[Iv h,Pv gn,Pv ga] w
   (Ret w (AY (Pj gn ga gp g0 g1 gx g2 g3 capx fr st nx ou pl sp)) fun v M=>v= .tuple #[]/\
    M=Pj gn ga gp g0 g1 gx g2 g3 capx fr st (nx.set u.toNat (p+1)) (ou.set p.toNat h) (pl.set h.toNat p) sp):=by
 have i1:=(A1e.1 hfr).1;have i2:=(A1e.1 hnx).1;refine BO (args:=[_,_,_]) Tryz.func87 J Tryz.ntmps87 J hO ?_;unfold Pj;refine Ai ?_;refine Fv 1010010011 11 ?_;refine Yz [0,0,2,1] ?_;refine Yi A1x Bw ?_;refine Yh (AK (Br hfr)) ?_;refine Yi A1x Bw ?_;refine Yh (AK (G7 hnx)) ?_;refine Yz [1] ?_;refine AF J ?_;simp only[zq,zr];refine Aa<|Ai ?_;refine Fv 3030000100101001 16 ?_;refine Yz [0,2,1,2,3] ?_;refine Yi A1x Bw ?_;refine AO J J J J (AP (cs':=(AA (ou.set p.toNat h)).toArray) J J J Bw J (by simpa using hp1) BP) PN ?_;refine Yi A1x Bw ?_;refine AO J J J J (AP (cs':=(AA (pl.set h.toNat p)).toArray) J J J Bw J (by simpa using hh) BP) PN ?_;refine AF J ?_;simp only[zq,zr];refine Aa ?_;refine Fv 3001010010011 13 ?_;refine Yz [0,0,2,1] ?_;refine Yi A1x Bw ?_;refine Yh (AK (Br hfr)) ?_;refine Yi A1x Bw ?_;refine Yh (AK (G7 hnx)) ?_;refine Yz [1] ?_;refine Yi A1x Bw ?_;refine AO J J J J (AP (cs':=(AA (nx.set u.toNat (p+1))++sp).toArray) J J J Bw J (by simp;omega) (Pa i2)) PN ?_;refine AF J ?_;simp only[zq,zr];refine BQ (.inr J) J ?_;refine⟨J,?_⟩;simp[Pj,sl]
def NI(M:Jo):List Chunk:=
 [AC M.gp 196 #[sl M.g0 M.fr,sl M.g1 M.st,sl M.g2 M.ou,sl M.g3 M.pl],AC M.g0 3 (AA M.fr).toArray,AC M.g1 3 (AA M.st).toArray,AC M.g2 3 (AA M.ou).toArray,AC M.g3 3 (AA M.pl).toArray]
def Vj(es:List Pr)(i:Nat):Nat->Int:=fun h=>if h<2*i then((frs es)[h]?).getD 0 else 0
def NW(es:List Pr)(i:Nat):Nat->Int:=fun x=>if x=0 then 0 else Fr (es.take i) (x-1)
def L5(es:List Pr)(v:Nat):Nat->Int:=fun x=>if x<=v then pre es x else Fr es (x-1)
def nxA(es:List Pr)(i:Nat):Nat->Int:=fun v=>pre es v+SW es i v
def nxB(es:List Pr)(i:Nat):Nat->Int:=fun v=>pre es v+SW es es.length v+Ws es i v
structure NewI where
 i:Nat
 fo:Nat->Int
 fp:Nat->Int
theorem YW{es:List Pr}{i:Nat}{e:Pr}(he:es[i]? =some e)(h:Nat):upd (upd (Vj es i) (2*i) e.1) (2*i+1) e.2 h=Vj es (i+1) h:=by
 obtain⟨f1,f2⟩:=Ek he;unfold upd Vj;by_cases a1:h=2*i+1
 .subst a1;rw[if_pos rfl,if_pos (by omega),f2];rfl
 rw[if_neg a1];by_cases a2:h=2*i
 .subst a2;rw[if_pos rfl,if_pos (by omega),f1];rfl
 rw[if_neg a2];by_cases a3:h<2*i
 .rw[if_pos a3,if_pos (by omega)]
 rw[if_neg a3,if_neg (by omega)]
theorem XO{es:List Pr}{i u v:Nat}(he:es[i]? =some ((u:Int),(v:Int)))(hne:u≠v)(x:Nat):
  upd (upd (NW es i) (u+1) (NW es i (u+1)+1)) (v+1) (upd (NW es i) (u+1) (NW es i (u+1)+1) (v+1)+1) x=NW es (i+1) x:=by
 have hc:=fun y=>MX he (by dsimp only;omega) y;dsimp only at hc;unfold upd NW
 match x with
 | 0=>rw[if_neg (by omega),if_neg (by omega)];rfl
 | y+1=>
  simp only[hc,A3w,if_neg (Nat.succ_ne_zero _)];by_cases a1:y=v
  .subst a1;rw[if_pos rfl,if_neg (by omega),if_neg (show ¬(u:Int)=y by omega),if_pos rfl];omega
  by_cases a2:y=u
  .subst a2;rw[if_neg (by omega),if_pos rfl,if_pos rfl,if_neg (by omega)];omega
  rw[if_neg (by omega),if_neg (by omega),if_neg (by omega),if_neg (by omega)];omega
theorem XN{es:List Pr}{v:Nat}(x:Nat):upd (L5 es v) (v+1) (L5 es v (v+1)+L5 es v v) x=L5 es (v+1) x:=by
 unfold upd L5;by_cases a1:x=v+1
 .subst a1;rw[if_pos rfl,if_neg (by omega),if_pos (A1F _),if_pos (A1F _)];show Fr es (v+1-1)+pre es v=pre es v+Fr es v;simp only[A3w];omega
 rw[if_neg a1];by_cases a2:x<=v
 .rw[if_pos a2,if_pos (by omega)]
 rw[if_neg a2,if_neg (by omega)]
theorem KR(N:Int)(es:List Pr)(A:Option Addr)(cap:Nat)(w:World)(hr:Rd w A (Cj es))(hl:es.length<=9223372036854775807):
  Calls A1c 36 #[.agg #[Iv N,.slice A es.length cap]] w (Ret w [] fun v L=>
   (¬BX N es/\L=[]/\v= .tuple #[.pointer none,Iv 1])\/(BX N es/\∃M,Xj N es M/\v= .tuple #[.pointer (some ⟨M.gp,0,none⟩),Iv 0]/\L=NI M)):=by
 refine cO Tryz.func36 Tryz.ntmps36<|Zs ?_;refine ZB fun g1=>?_;refine Zz [2]<|Zx<|Ai<|Zs ?_;refine CR [_,_] ?_;refine AL J J (AH PV J J J (fun w' hw=>Fc N es A cap w' (hr.keep0 hw) hl)) ?_;rintro _ ⟨b,rfl,hb⟩;refine Zz [1]<|Zx ?_;refine Zd ?_ ?_<;>intro c1
 .refine Zs<|Zz [2]<|Zx<|At<|Ad ?_;refine Lm 2 3 ?_;refine Bq (.inl J) J J J ?_;exact .inl ⟨fun hV=>(by rw[hb.2 hV] at c1;cases c1),J,J⟩
 have hV:BX N es:=hb.1 (by simpa using c1);have hN0:=hV.lo;have hN1:=hV.hi;have hfew:=hV.few;obtain⟨Nn,rfl⟩:=A1n hN0;have hNn:Nn<=1048576:=by omega
 refine Ao<|Aa<|Zs<|Zz [1,2]<|Zx<|Ai ?_;refine Fw 32202002002010200 [0,1,3,4,5,7,8,10,11,2,6,9,12,13,14,15,16] [] PN ?_;refine Ym ?_;refine Yo J (Dz J J J (by omega)) ?_;refine Yz [1,2] ?_;refine Yo J (Dz J J J (by omega)) ?_;refine Ym ?_;refine Yo J (Dz J J J (by omega)) ?_;refine A8 J J J J (B6 (k:=2*es.length) J J J A1x Bw Fz C6 (by omega) (by omega) (by omega) (BS _)) fun g21=>?_;refine A8 J J J J (B6 (k:=Nn+1) J J J A1x Bw Fz C6 (by omega) (by omega) (by omega) (BS _)) fun g25=>?_;refine A8 J J J J (B6 (k:=2*es.length) J J J A1x Bw Fz C6 (by omega) (by omega) (by omega) (BS _)) fun g28=>?_;refine A8 J J J J (B6 (k:=2*es.length) J J J A1x Bw Fz C6 (by omega) (by omega) (by omega) (BS _)) fun g31=>?_;refine Yo J (Dy (cs:=#[_,_,_,_]) J J bs196 J J) ?_;refine A8 J J J J (HE J J J) fun g33=>?_;refine A8 J J J J (DL J ze97 J) fun g5=>?_;refine BF.sto (V:=[AC g5 97 #[.pointer none],AC g33 196 _,AC g31 _ _,AC g28 _ _,AC g25 _ _,AC g21 _ _,AC g1 _ _]) J J J J J (AP (cs':=#[_]) J J J sz97 J (A1f J) J) PN ?_;refine AF J ?_;simp only[zq,zr];refine Aa<|Ai<|Zs<|Zz [1,2]<|Zx<|As ?_;let ca:=AC g5 97 #[Pv g33];refine AS (ι:=Nat) (fun i=>i<=es.length)
  (fun i=>[(1,Pv g1),(2,.pointer none),(3,Iv 0),(4,Iv es.length),(5,Pv g5),(35,.slice A es.length cap),(36,Iv es.length),(37,Iv i)])
  (fun i=>[ca,AC g33 196 #[sl g21 (BA (2*es.length) fun _=>0),sl g25 (BA (Nn+1) fun _=>0),sl g28 (BA (2*es.length) fun _=>0),sl g31 (BA (2*es.length) fun _=>0)],
   AC g31 3 (AA (BA (2*es.length) fun _=>0)).toArray,AC g28 3 (AA (BA (2*es.length) fun _=>0)).toArray,AC g25 3 (AA (BA (Nn+1) (NW es i))).toArray,AC g21 3 (AA (BA (2*es.length) (Vj es i))).toArray,AC g1 24 #[Iv (Nn:Int),.slice A es.length cap]])
  (fun i=>es.length-i) 0 (A1E _) ⟨J,J,J,J,J,J,J,J,trivial⟩
  (Bg (.cons' 0 J (by simp only[IZ];rfl) (Bg (Bg (.cons' 0 J (Bi fun x _=>by simp[NW,Fr,Bs,Dn]) (.cons' 0 J (Bi fun x _=>by simp[Vj]) (Bg .nil))))))) ?_;intro i hi;simp only[IZ];refine Zs<|Zc<|Zx<|Ai ?_;refine Zd ?_ ?_<;>intro c6
 .have hlt:i<es.length:=by simpa using c6
  obtain⟨e,he⟩:∃e,es[i]? =some e:=⟨_,A1d hlt⟩;obtain⟨ad,rfl,hU,hVe⟩:=hr.pair he;have ho:=hV.ok i e he;obtain⟨u,hu⟩:=A1n ho.lo;obtain⟨v,hv⟩:=A1n (show 0<=e.2 by have:=ho.lo;have:=ho.lt;omega);obtain rfl:e=((u:Int),(v:Int)):=Prod.ext hu hv;clear hu hv;have huv:u<v:=by have:=ho.lt;simp at this;exact this
  have hvN:v<Nn:=by have:=ho.hi;simp at this;exact this
  replace hU:w.cell? (ad.add (i*2))=some (Iv (u:Int)):=hU;replace hVe:w.cell? (ad.add (i*2+1))=some (Iv (v:Int)):=hVe;refine Ao<|Aa<|Ai<|As<|Zs<|Zm ?_;refine Zo (Bz J J J A1y CF (by omega) (by omega) (by first|exact AX _ _|exact Cm _ _ _|rfl)) ?_;refine Zu (A4 (vs:=[_,_]) J J Hw CF J (Fm hU hVe (by simp))) ?_;refine ZA Fs fun g7=>?_;refine Za ?_;refine Zq #[_,_]<|Zx<|Ai ?_;refine Fw 303000100001001001001 (od 21) ([AC g7 39 #[Iv (u:Int),Iv (v:Int)]]) (PK (Bg .nil)) ?_;refine Yz [0,2,1] ?_;refine Yo J (Dz J J J (by omega)) ?_;refine Yz [0,2,1] ?_;refine Yo J (Dz J J J (by omega)) ?_;refine Yz [2,1] ?_;refine BG J J J (AG J J CA (B0 J)) ?_;refine Yi (ad':=⟨g21,2*i,none⟩) A1x Bw ?_ (he:=by rw[AX];rfl);refine AO J J J J (AP (cs':=(AA (BA (2*es.length) (upd (Vj es i) (2*i) u))).toArray) J J J Bw J (by simp;omega) BU) (PK (Bg .nil)) ?_;refine Yi (ad':=⟨g21,2*i+1,none⟩) A1x Bw ?_ (he:=by rw[AX];rfl);refine AO J J J J (AP (cs':=(AA (BA (2*es.length) (Vj es (i+1)))).toArray) J J J Bw J (by simp;omega) (by rw[BU,DE fun x _=>YW he x])) (PK (Bg .nil)) ?_;refine AF J ?_;simp only[zq,zr];refine Aa<|Ai ?_;refine Fv 300100101001 12 ?_;refine Yz [0,2,1,1] ?_;refine Yi (ad':=⟨g25,u+1,none⟩) A1x Bw ?_ (he:=by rw[AX];rfl);refine Yg ?_ (hh:=by exact(AK (BB (by omega))));have hcb:0<=NW es i (u+1)/\NW es i (u+1)<=8388608:=by
   simp only[NW,A3w,if_neg (Nat.succ_ne_zero u)];have h1:=Hs (es.take i) u;have h2:=LD hV (u:Int) i (by omega);have h3:SW es i u<=i:=by unfold SW;have:=A2n (p:=fun e:Pr=>decide (e.2=(u:Int))) (l:=es.take i);simp at this;omega
   have h4:Ws es i u<=i:=by unfold Ws;have:=A2n (p:=fun e:Pr=>decide (e.1=(u:Int))) (l:=es.take i);simp at this;omega
   unfold Fr at *;omega
  refine Yz [1] ?_;refine Yi (ad':=⟨g25,u+1,none⟩) A1x Bw ?_ (he:=by rw[AX];rfl);refine AO J J J J (AP (cs':=(AA (BA (Nn+1) (upd (NW es i) (u+1) (NW es i (u+1)+1)))).toArray) J J J Bw J (by simp;omega) BU) PN ?_;refine AF J ?_;simp only[zq,zr];refine Aa ?_;refine Fv 300100101001 12 ?_;refine Yz [0,2,1,1] ?_;refine Yi (ad':=⟨g25,v+1,none⟩) A1x Bw ?_ (he:=by rw[AX];rfl);refine Yg ?_ (hh:=by exact(AK (BB (by omega))));have hcv:0<=upd (NW es i) (u+1) (NW es i (u+1)+1) (v+1)/\upd (NW es i) (u+1) (NW es i (u+1)+1) (v+1)<=8388608:=by
   unfold upd;rw[if_neg (by omega)];simp only[NW,A3w,if_neg (Nat.succ_ne_zero v)];have h1:=Hs (es.take i) v;have h2:=LD hV (v:Int) i (by omega);have h3:SW es i v<=i:=by unfold SW;have:=A2n (p:=fun e:Pr=>decide (e.2=(v:Int))) (l:=es.take i);simp at this;omega
   have h4:Ws es i v<=i:=by unfold Ws;have:=A2n (p:=fun e:Pr=>decide (e.1=(v:Int))) (l:=es.take i);simp at this;omega
   unfold Fr at *;omega
  refine Yz [1] ?_;refine Yi (ad':=⟨g25,v+1,none⟩) A1x Bw ?_ (he:=by rw[AX];rfl);refine AO J J J J (AP (cs':=(AA (BA (Nn+1) (NW es (i+1)))).toArray) J J J Bw J (by simp;omega) (by rw[BU,DE fun x _=>XO he (by omega) x])) PN ?_;refine AF J ?_;simp only[zq,zr];refine An<|Aa<|Ak<|Zz [2]<|Az ?_;refine AB (i+1) (by omega) (by omega) ⟨J,J,J,J,J,J,J,J,trivial⟩ (BC (.cons' 1 J (by simp only[IZ]) (BC (BC (BC (BC (BC .nil)))))))
 have hie:i=es.length:=by simp at c6;omega
 subst hie;refine AN<|Ag<|Ag<|Aq<|Aa<|Ai<|Zs<|Zz [1,1]<|Zx<|As ?_;refine AS (ι:=Nat) (fun v=>v<=Nn)
  (fun v=>[(2,.pointer none),(3,Iv 0),(4,Iv es.length),(5,Pv g5),(85,Iv (Nn:Int)),(86,Iv v)])
  (fun v=>[ca,AC g33 196 #[sl g21 (BA (2*es.length) fun _=>0),sl g25 (BA (Nn+1) fun _=>0),sl g28 (BA (2*es.length) fun _=>0),sl g31 (BA (2*es.length) fun _=>0)],
   AC g31 3 (AA (BA (2*es.length) fun _=>0)).toArray,AC g28 3 (AA (BA (2*es.length) fun _=>0)).toArray,AC g25 3 (AA (BA (Nn+1) (L5 es v))).toArray,AC g21 3 (AA (BA (2*es.length) (Vj es es.length))).toArray])
  (fun v=>Nn-v) 0 (A1E _) ⟨J,J,J,J,J,J,trivial⟩
  (Bg (.cons' 0 J (by simp only[IZ]) (Bg (Bg (.cons' 0 J (Bi fun x _=>by
   unfold NW L5;rw[A1T];by_cases h0:x=0
   .subst h0;rfl
   rw[if_neg h0,if_neg (by omega)]) (Bg .nil)))))) ?_;intro v hv;simp only[IZ];refine Zs<|Zc<|Zx<|Ai ?_;refine Zd ?_ ?_<;>intro c13
 .have hlt:v<Nn:=by simpa using c13
  refine Ao<|Aa<|Ai<|As<|Zs<|Zz [2]<|Zx ?_;refine Fv 300100100110001001 18 ?_;refine Yz [0,2,2] ?_;refine Yi (ad':=⟨g25,v+1,none⟩) A1x Bw ?_ (he:=by rw[AX];rfl);refine Yg ?_ (hh:=by exact(AK (BB (by omega))));refine Yz [0,2,1] ?_;refine Yi A1x Bw ?_;refine Yg ?_ (hh:=by exact(AK (BB (i:=v) (by omega))));have hcb:0<=L5 es v (v+1)/\L5 es v (v+1)<=8388608/\0<=L5 es v v/\L5 es v v<=8388608:=by
   unfold L5;rw[if_neg (by omega),if_pos (A1F _)];have h1:=Tt hV (v:=v+1) (by omega);have h2:pre es (v+1)=pre es v+Fr es v:=rfl;have h3:=En es v;have h4:=Hs es v;simp only[A3w];omega
  refine Yz [1] ?_;refine Yi (ad':=⟨g25,v+1,none⟩) A1x Bw ?_ (he:=by rw[AX];rfl);refine AO J J J J (AP (cs':=(AA (BA (Nn+1) (L5 es (v+1)))).toArray) J J J Bw J (by simp;omega) (by rw[BU,DE fun x _=>XN x])) PN ?_;refine AF J ?_;simp only[zq,zr];refine An<|Aa<|Ak<|Zz [2]<|Az ?_;refine AB (v+1) (by omega) (by omega) ⟨J,J,J,J,J,J,trivial⟩ (Bg (.cons' 0 J (by simp only[IZ]) (Bg (Bg (Bg (Bg .nil))))))
 have hve:v=Nn:=by simp at c13;omega
 subst hve;refine AN<|Ag<|Ag<|Aq<|Aa<|Zs ?_;refine ZL #[] A1x Bw C6 fun g107=>?_;refine Zz [0,2,0] ?_;refine AU J J (Bt J J J A1x Bw Fz C6 J (by decide) (by decide) (fun w hw=>Ca (vs:=[]) J (by decide) (A1F _) (by decide) J J hw) (.inl ⟨_,_,J,Ot⟩) (by simp) (CL _ []) (by simp;omega)) ?_;rintro v112 _ rfl;refine CN.open (fun _ h=>absurd (congrArg List.length h) (by simp)) ?_;rintro gx len capx sp rfl hlen hlc hcm hcs;obtain rfl:len=v+1:=by simp at hlen;omega
 simp only[A1N];refine ZA Gq fun g9=>?_;refine Jj #[_]<|Zx<|Zs ?_;refine Zo (Fu J J J) ?_;refine Za<|Zx<|Ai<|Zs ?_;refine Zz [2]<|Zx<|As ?_;let cb:=AC g25 3 (AA (BA (v+1) (L5 es v))).toArray;refine AS (ι:=NewI) (fun s=>s.i<=es.length/\Xc es (fun h=>h%2=1/\h / 2<s.i) s.fo s.fp)
  (fun s=>[(2,.pointer none),(3,Iv 0),(4,Iv es.length),(5,Pv g5),(10,.func (.func 87) #[] #[Pv g9,Pv g5]),(114,Iv es.length),(115,Iv s.i)])
  (fun s=>Pj g9 g5 g33 g21 g25 gx g28 g31 capx (BA (2*es.length) (Vj es es.length)) (BA (v+1) (L5 es v)) (BA (v+1) (nxA es s.i)) (BA (2*es.length) s.fo) (BA (2*es.length) s.fp) sp++[cb])
  (fun s=>es.length-s.i) ⟨0,fun _=>0,fun _=>0⟩ ⟨A1E _,fun v k h hk hD=>by dsimp only at hD;have:=((Bb hV).1 (A1h hk)).1;omega⟩ ⟨J,J,J,J,J,J,J,trivial⟩
  (.cons' 0 J (by simp) (.cons' 1 J J (.cons' 1 J (by simp only[IZ]) (.cons' 4 J J (.cons' 0 J (Hu fun x hx=>by
   unfold L5 nxA SW;rw[if_pos (by omega)];simp) (.cons' 1 rfl rfl (.cons' 0 rfl rfl (.cons' 0 rfl rfl .nil)))))))) ?_;rintro⟨i,fo,fp⟩ ⟨hi,hD⟩;dsimp only at hi hD ⊢;refine Zs<|Zc<|Zx<|Ai ?_;refine Zd ?_ ?_<;>intro c20
 .have hlt:i<es.length:=by simpa using c20
  obtain⟨e,he⟩:∃e,es[i]? =some e:=⟨_,A1d hlt⟩;have ho:=hV.ok i e he;obtain⟨x,hx⟩:=A1n (show 0<=e.2 by have:=ho.lo;have:=ho.lt;omega);have hxN:x<v:=by have:=ho.hi;omega
  have hpos:=Wj he (by have:=ho.lt;omega);rw[hx] at hpos;have hk:=(A1e.1 hpos).1;have hkl:=LD hV (x:Int) i (by omega);have hz:=YE hV he;rw[hx] at hz;have hpl:=Ml hV (v:=x) (by omega) hk;have hpn:=En es x;have hD':=Xc.put hV hD hpos;obtain⟨p,hp⟩:∃p,p=pre es x+((Bs (es.take i) (x:Int)).length:Int):=⟨_,rfl⟩;rw[<-hp] at hD' hpl;have hp0:0<=p:=by omega
  refine Ao<|Aa<|Ai<|As<|Zs<|Zz [2]<|Zx<|Ak ?_;refine Zz [2] ?_;refine Zo (Dz J J J (by omega)) ?_;refine Zp ?_;refine AU J J (BT en87 J J J (.refl _) (fun _ h=>h) (fun w hw=>N9 (h:=2*(i:Int)+1) (u:=(x:Int)) (p:=p) (hw.sub (A1J _ _)).self (by omega) (by
   have h1:(2*(i:Int)+1).toNat=2*i+1:=by omega
   rw[h1,C3 _ (by omega)];unfold Vj;rw[if_pos (by omega),(Ek he).2,hx];rfl) (by omega) (by
   simp only[A1g];rw[C3 _ (by omega)];unfold nxA;rw[hp];congr 1;omega) hp0 (by simp;omega) (by simp;omega) (by omega))) ?_;rintro _ _ ⟨_,⟨rfl,rfl⟩,rfl⟩;refine Az<|An<|Aa<|Ak<|Zz [2]<|Az ?_;have e1:(2*(i:Int)+1).toNat=2*i+1:=by omega
  refine AB (NewI.mk (i+1) (upd fo p.toNat (2*(i:Int)+1)) (upd fp (2*(i:Int)+1).toNat p)) (by simp;omega) ⟨by simp;omega,hD'.imp fun y z hz hd=>?_⟩ ⟨J,J,J,J,J,J,J,trivial⟩
   (.cons' 0 J (by simp) (.cons' 0 J J (.cons' 0 J (by simp[sl]) (.cons' 0 J J (.cons' 0 J (by
    simp only[A1g,G0];refine Hu fun y hy=>?_;unfold upd nxA;rw[Mz he,hx];by_cases hyx:y=x
    .subst hyx;rw[if_pos rfl,if_pos rfl];omega
    rw[if_neg hyx,if_neg (by omega)];omega) (.cons' 0 rfl (by rw[G0]) (.cons' 0 rfl (by rw[G0]) (.cons' 0 rfl rfl .nil))))))));by_cases h1:z / 2<i
  .exact .inl ⟨hd.1,h1⟩
  exact .inr (by have:=hd.1;have:=hd.2;simp at this;omega)
 have hie:i=es.length:=by simp at c20;omega
 subst hie;refine AN<|Ag<|Ag<|Aq<|Aa<|Ai<|Zs<|Zz [2]<|Zx<|As ?_;refine AS (ι:=NewI) (fun s=>s.i<=es.length/\Xc es (fun h=>h%2=1\/h / 2<s.i) s.fo s.fp)
  (fun s=>[(2,.pointer none),(3,Iv 0),(5,Pv g5),(10,.func (.func 87) #[] #[Pv g9,Pv g5]),(124,Iv es.length),(125,Iv s.i)])
  (fun s=>Pj g9 g5 g33 g21 g25 gx g28 g31 capx (BA (2*es.length) (Vj es es.length)) (BA (v+1) (L5 es v)) (BA (v+1) (nxB es s.i)) (BA (2*es.length) s.fo) (BA (2*es.length) s.fp) sp++[cb])
  (fun s=>es.length-s.i) ⟨0,fo,fp⟩ ⟨A1E _,hD.imp fun y z hz hd=>by dsimp only at hd;have:=((Bb hV).1 hz).2.1;have:=((Bb hV).1 hz).1;omega⟩ ⟨J,J,J,J,J,J,trivial⟩
  (.cons' 0 J (by simp) (.cons' 0 J J (.cons' 0 J J (.cons' 0 J J (.cons' 0 J (Hu fun x hx=>by
   unfold nxA nxB Ws;simp) (.cons' 0 rfl rfl (.cons' 0 rfl rfl (.cons' 0 rfl rfl .nil)))))))) ?_;rintro⟨i,fo,fp⟩ ⟨hi,hD⟩;dsimp only at hi hD ⊢;refine Zs<|Zc<|Zx<|Ai ?_;refine Zd ?_ ?_<;>intro c25
 .have hlt:i<es.length:=by simpa using c25
  obtain⟨e,he⟩:∃e,es[i]? =some e:=⟨_,A1d hlt⟩;have ho:=hV.ok i e he;obtain⟨x,hx⟩:=A1n ho.lo;have hxN:x<v:=by have:=ho.hi;have:=ho.lt;omega
  have hpos:=Wk he;rw[hx] at hpos;have hk:=(A1e.1 hpos).1;have hkl:=LD hV (x:Int) i (by omega);have hz:=loV_all hV he;rw[hx] at hz;have hpl:=Ml hV (v:=x) (by omega) hk;have hpn:=En es x;have hD':=Xc.put hV hD hpos;obtain⟨p,hp⟩:∃p,p=pre es x+((Bs (es.take i) (x:Int)).length:Int):=⟨_,rfl⟩;rw[<-hp] at hD' hpl;have hp0:0<=p:=by omega
  refine Ao<|Aa<|Ai<|As<|Zs<|Zz [2]<|Zx<|Ak ?_;refine Zz [2] ?_;refine Zo (Dz J J J (by omega)) ?_;refine AU J J (BT en87 J J J (.refl _) (fun _ h=>h) (fun w hw=>N9 (h:=2*(i:Int)) (u:=(x:Int)) (p:=p) (hw.sub (A1J _ _)).self (by omega) (by
   have h1:(2*(i:Int)).toNat=2*i:=by omega
   rw[h1,C3 _ (by omega)];unfold Vj;rw[if_pos (by omega),(Ek he).1,hx];rfl) (by omega) (by
   simp only[A1g];rw[C3 _ (by omega)];unfold nxB;rw[hp];congr 1;omega) hp0 (by simp;omega) (by simp;omega) (by omega))) ?_;rintro _ _ ⟨_,⟨rfl,rfl⟩,rfl⟩;refine Az<|An<|Aa<|Ak<|Zz [2]<|Az ?_;refine AB (NewI.mk (i+1) (upd fo p.toNat (2*(i:Int))) (upd fp (2*(i:Int)).toNat p)) (by simp;omega) ⟨by simp;omega,hD'.imp fun y z hz hd=>?_⟩ ⟨J,J,J,J,J,J,trivial⟩
   (.cons' 0 J (by simp) (.cons' 0 J J (.cons' 0 J (by simp[sl]) (.cons' 0 J J (.cons' 0 J (by
    simp only[A1g,G0];refine Hu fun y hy=>?_;unfold upd nxB;rw[RH he,hx];by_cases hyx:y=x
    .subst hyx;rw[if_pos rfl,if_pos rfl];omega
    rw[if_neg hyx,if_neg (by omega)];omega) (.cons' 0 rfl (by rw[G0]) (.cons' 0 rfl (by rw[G0]) (.cons' 0 rfl rfl .nil))))))));rcases hd with hd|hd
  .exact .inl (.inl hd)
  by_cases h1:z / 2<i
  .exact .inl (.inr h1)
  by_cases h2:z%2=1
  .exact .inl (.inl h2)
  exact .inr (by simp at hd;omega)
 have hie:i=es.length:=by simp at c25;omega
 subst hie;simp only[Pj,A1K,A1N];refine AN<|Ag<|Ag<|Aq<|Aa<|Zs<|Zz [0,2]<|Zx<|At ?_;refine AZ (E':=[(2,_),(3,_)]) (L':=NI ⟨g33,g21,g25,g28,g31,BA (2*es.length) (Vj es es.length),BA (v+1) (L5 es v),BA (2*es.length) fo,BA (2*es.length) fp⟩) ⟨J,J,trivial⟩ (CY (CY (Xn (Et (Et .nil))))) ?_;refine Bq (.inl J) J J J ?_;refine .inr ⟨hV,_,⟨hV,?_,by simp,?_,?_,by simp;omega,by simp;omega,?_,?_⟩,J,J⟩
 .apply A2z;intro j;by_cases hj:j<2*es.length
  .rw[C3 _ hj];have:j<(frs es).length:=by rw[Cz];omega
   unfold Vj;rw[if_pos hj,A1d this];rfl
  rw[A1u (by simp;omega),A1u (by rw[Cz];omega)]
 .rw[C3 _ (by omega)];rfl
 .intro x y hxN hy;obtain⟨hx1,rfl⟩:=LZ hy;rw[C3 _ (by omega)];unfold L5;rw[if_pos (by omega),if_pos (by omega)];rfl
 .intro x y hxN hy k h hk;obtain⟨hx1,rfl⟩:=LZ hy;have hm:=(Bb hV).1 (A1h hk);have hkl:=(A1e.1 hk).1;have hpl:=Ml hV hxN hkl;have hpn:=En es x;obtain⟨d1,d2⟩:=hD x k h hk (.inr (by omega));have hs:L5 es v x=pre es x:=by unfold L5;rw[if_pos (by omega)]
  rw[hs];have e1:(pre es x).toNat+k=(pre es x+k).toNat:=by omega
  refine⟨?_,?_⟩
  .show(BA (2*es.length) fo)[_]? =_;rw[e1,C3 _ (by omega),d1]
  show(BA (2*es.length) fp)[_]? =_;rw[C3 _ (by omega),d2]
 intro x y hy;obtain⟨hx1,rfl⟩:=LZ hy;have hs:L5 es v x=pre es x:=by unfold L5;rw[if_pos (by omega)]
 rw[hs];have:=En es x;have:=Tt hV (v:=x) (by omega);omega
def Jg(es:List Pr)(i:Nat):Nat->Int:=fun x=>Fr (es.take i) x
theorem WR{es:List Pr}{i u v:Nat}(he:es[i]? =some ((u:Int),(v:Int)))(hne:u≠v)(x:Nat):
  upd (upd (Jg es i) u (Jg es i u+1)) v (upd (Jg es i) u (Jg es i u+1) v+1) x=Jg es (i+1) x:=by
 have hc:=MX he (by dsimp only;omega) x;dsimp only at hc;unfold Jg;rw[hc];unfold upd;dsimp only;by_cases a1:x=v
 .subst a1;rw[if_pos rfl,if_neg (Ne.symm hne),if_neg (by omega),if_pos rfl];omega
 rw[if_neg a1];by_cases a2:x=u
 .subst a2;rw[if_pos rfl,if_pos rfl,if_neg (by omega)];omega
 rw[if_neg a2,if_neg (by omega),if_neg (by omega)];omega
theorem Ku:∀(es:List Pr) (k:Nat) (v:Int),(Dn k es v).length<=es.length
 | [],k,v=>by simp[Dn]
 | e::r,k,v=>by
  unfold Dn;have:=Ku r (k+1) v;rw[A1V,A2a];split
  .simp;omega
  split<;>simp<;>omega
structure DegI where
 i:Nat
theorem IX{N:Int}{es:List Pr}{va:Value}{w:World}(hg:DX w va es):
  Calls A1c 78 #[.agg #[Iv N,va]] w (Ret w [] fun r L=>
   (BX N es/\∃g,r= .tuple #[Sv g N.toNat,Iv 0]/\L=[AC g 3 (AA (BA N.toNat (fun v=>Fr es v))).toArray])\/(¬BX N es/\r= .tuple #[Nv,Iv 1]/\L=[])):=by
 obtain⟨A,cap,rfl,hr,hlc,hcm,hle⟩:=hg;refine cO Tryz.func78 Tryz.ntmps78<|Zs ?_;refine ZB fun g1=>?_;refine Zz [2]<|Zx<|Ai<|Zs ?_;refine CR [_,_] ?_;refine AL J J (AH PV J J J (fun w hw=>Fc N es A cap w (hr.keep0 hw) (by omega))) ?_;rintro _ ⟨b,rfl,hb⟩;refine Zz [1]<|Zx ?_;refine Zd ?_ ?_<;>intro c1
 .refine Zs<|Zz [2]<|Zx<|At<|Ad ?_;refine Lm 2 3 ?_;refine Bq (.inl J) J J J ?_;exact .inr ⟨by rw[<-hb];simpa using c1,J,J⟩
 refine Ao<|Aa<|Ai ?_;have hV:BX N es:=hb.1 (by simpa using c1);have hN0:=hV.lo;have hN1:=hV.hi;obtain⟨n,rfl⟩:=A1n hN0;simp only[A1g];refine Ak<|Zz [1,0] ?_;refine Zw (B6 (k:=n) J J J A1x Bw Fz C6 J (by omega) (by omega) (BS n)) fun g12=>?_;refine Za<|Zx<|Ai<|Zs ?_;refine Zz [1,2]<|Zx<|As ?_;refine AS (ι:=DegI) (fun j=>j.i<=es.length)
  (fun j=>[(4,Sv g12 n),(14,.slice A es.length cap),(15,Iv es.length),(16,Iv j.i)])
  (fun j=>[AC g12 3 (AA (BA n (Jg es j.i))).toArray]) (fun j=>es.length-j.i) ⟨0⟩ (A1E _) ⟨J,J,J,J,trivial⟩ (.cons' 0 J (Bi fun _ _=>by simp[Jg,Fr,Bs,Dn]) .nil) ?_;rintro⟨i⟩ hi;dsimp only at hi ⊢;refine Zs<|Zc<|Zx<|Ai ?_;refine Zd ?_ ?_<;>intro c5
 .have hlt:i<es.length:=by simpa using c5
  obtain⟨e,he⟩:∃e,es[i]? =some e:=⟨_,A1d hlt⟩;obtain⟨ad,rfl,hU,hVe⟩:=hr.pair he;have ho:=hV.ok i e he;obtain⟨u,hu⟩:=A1n ho.lo;obtain⟨v,hv⟩:=A1n (show 0<=e.2 by have:=ho.lo;have:=ho.lt;omega);obtain rfl:e=((u:Int),(v:Int)):=Prod.ext hu hv;clear hu hv;have huv:u<v:=by have:=ho.lt;simp at this;exact this
  have hvN:v<n:=by have:=ho.hi;simp at this;exact this
  replace hU:w.cell? (ad.add (i*2))=some (Iv (u:Int)):=hU;replace hVe:w.cell? (ad.add (i*2+1))=some (Iv (v:Int)):=hVe;have b1:∀(x:Nat),0<=Jg es i x/\Jg es i x<=4194304:=fun x=>by
   have:=Ku (es.take i) 0 x;have:=hV.few;simp only[A3g] at *;unfold Jg Fr Bs;omega
  have b2:=b1 u;have b3:=b1 v;refine Ao<|Aa<|Ai<|As<|Zs ?_;refine Zo (Bz J J J A1y CF (by omega) (by omega) (by first|exact AX _ _|exact Cm _ _ _|rfl)) ?_;refine Zu (A4 (vs:=[_,_]) J J Hw CF J (Fm hU hVe (by simp))) ?_;refine ZA Fs fun g6=>?_;refine Zq #[_,_]<|Zx<|Zs ?_;refine Zz [2,1] ?_;refine Zu (AG J J CA (AK (BB (by omega)))) ?_;refine Zo (UU J J J (by simp only[A1g];omega)) ?_;refine Zz [1] ?_;refine Zy (AP J J J Bw J (by simp;omega) BU)<|Zx ?_;have b4:upd (Jg es i) u (Jg es i u+1) v=Jg es i v:=by unfold upd;rw[if_neg (by omega)]
  refine Ak<|Zz [2,1] ?_;refine Zu (AG J J CA (AK (BB hvN))) ?_;refine Zo (UU J J J (by simp only[A1g];rw[b4];omega)) ?_;refine Zz [1] ?_;refine Zy (AP J J J Bw J (by simp;omega) BU)<|Az<|An<|Aa<|Ak ?_;refine Zz [2]<|Az ?_;refine AB ⟨i+1⟩ (by dsimp only;omega) (by dsimp only;omega) ⟨J,J,J,J,trivial⟩ (.cons' 1 J (Bi fun x _=>WR he (by omega) x) .nil)
 refine AN<|Ag<|Ag<|Aq<|Aa<|Zs<|Zz [3]<|Zx<|At ?_;have hin:i=es.length:=by simp at c5;omega
 subst hin;refine AZ (E':=[(2,_),(3,_)]) ⟨J,J,trivial⟩ (Bg .nil) ?_;refine Bq (.inl J) J J J ?_;exact .inl ⟨hV,g12,J,by rw[Bi (g:=fun v=>Fr es v) fun v _=>by simp[Jg]]⟩
section
variable{N:Int}{es:List Pr}
theorem Cq{h:Int}(h0:0<=h)(h1:h<es.length*2):∃(e:Nat) (a:Pr),es[e]? =some a/\((h=2*(e:Int)/\Aj es h=a.1/\AD es h=a.2)\/(h=2*(e:Int)+1/\Aj es h=a.2/\AD es h=a.1)):=by
 obtain⟨e,he⟩:∃e:Nat,h / 2=e:=⟨(h / 2).toNat,by omega⟩;have hlt:e<es.length:=by omega
 refine⟨e,es[e],A1d hlt,?_⟩;obtain⟨f1,f2⟩:=Ek (A1d hlt);have g1:Aj es (2*(e:Int))=es[e].1:=by unfold Aj;rw[if_pos (by omega),show(2*(e:Int)).toNat=2*e by omega,f1];rfl
 have g2:Aj es (2*(e:Int)+1)=es[e].2:=by unfold Aj;rw[if_pos (by omega),show(2*(e:Int)+1).toNat=2*e+1 by omega,f2];rfl
 by_cases hp:h%2=0
 .left;have hh:h=2*(e:Int):=by omega
  subst hh;refine⟨rfl,g1,?_⟩;unfold AD tw;rw[if_pos (by omega),if_pos (by omega)];exact g2
 right;have hh:h=2*(e:Int)+1:=by omega
 subst hh;refine⟨rfl,g2,?_⟩;unfold AD tw;rw[if_pos (by omega),if_neg (by omega),show 2*(e:Int)+1-1=2*(e:Int) by omega];exact g1
theorem to_lt(hV:BX N es){u h k:Int}(hh:h∈Bs es u)(hk:k∈Bs es u)(hlt:h<k):AD es h<AD es k:=by
 obtain⟨a0,a1,a2⟩:=(Bb hV).1 hh;obtain⟨b0,b1,b2⟩:=(Bb hV).1 hk;obtain⟨e,a,he,ha⟩:=Cq a0 a1;obtain⟨f,b,hf,hb⟩:=Cq b0 b1;have oa:=hV.ok e a he;have ob:=hV.ok f b hf;have la:=oa.lt;have lb:=ob.lt;by_cases hef:e=f
 .subst hef;rw[he] at hf;cases hf;rcases ha with⟨q1,q2,q3⟩|⟨q1,q2,q3⟩<;>rcases hb with⟨r1,r2,r3⟩|⟨r1,r2,r3⟩<;>omega
 have hl:=PH hV (i:=e) (j:=f) (by rcases ha with⟨q1,_⟩|⟨q1,_⟩<;>rcases hb with⟨r1,_⟩|⟨r1,_⟩<;>omega) he hf;unfold Lex at hl;rcases ha with⟨q1,q2,q3⟩|⟨q1,q2,q3⟩<;>rcases hb with⟨r1,r2,r3⟩|⟨r1,r2,r3⟩<;>omega
structure CZ (es:List Pr) (u v h:Int):Prop where
 lo:0<=h
 hi:h<es.length*2
 fr:Aj es h=u
 to:AD es h=v
theorem CZ.uniq(hV:BX N es){u v h k:Int}(a:CZ es u v h)(b:CZ es u v k):h=k:=by
 have ha:=(Bb hV).2 ⟨a.lo,a.hi,a.fr⟩;have hb:=(Bb hV).2 ⟨b.lo,b.hi,b.fr⟩;have h1:=a.to;have h2:=b.to;rcases Int.lt_trichotomy h k with c|c|c
 .have:=to_lt hV ha hb c;omega
 .exact c
 have:=to_lt hV hb ha c;omega
def G8(u v:Int):Nat->List Pr->Int
 | _,[]=> -1
 | k,e::r=>if e.1=u/\e.2=v then 2*(k:Int) else if e.1=v/\e.2=u then 2*(k:Int)+1 else G8 u v (k+1) r
theorem KU{u v:Int}:∀{l:List Pr} {k:Nat},(∃(i:Nat) (e:Pr),l[i]? =some e/\((e.1=u/\e.2=v/\G8 u v k l=2*((k+i:Nat):Int))\/(e.1=v/\e.2=u/\G8 u v k l=2*((k+i:Nat):Int)+1)))\/
  (G8 u v k l= -1/\∀e∈l,¬(e.1=u/\e.2=v)/\¬(e.1=v/\e.2=u))
 | [],k=>.inr ⟨rfl,by simp⟩
 | e::r,k=>by
  unfold G8;by_cases h1:e.1=u/\e.2=v
  .rw[if_pos h1];exact .inl ⟨0,e,rfl,.inl ⟨h1.1,h1.2,rfl⟩⟩
  rw[if_neg h1];by_cases h2:e.1=v/\e.2=u
  .rw[if_pos h2];exact .inl ⟨0,e,rfl,.inr ⟨h2.1,h2.2,rfl⟩⟩
  rw[if_neg h2];rcases KU (u:=u) (v:=v) (l:=r) (k:=k+1) with⟨i,e',hi,hc⟩|⟨h3,h4⟩
  .refine .inl ⟨i+1,e',by simpa using hi,?_⟩;rw[show k+(i+1)=k+1+i by omega];exact hc
  refine .inr ⟨h3,fun x hx=>?_⟩;rcases A1H.1 hx with rfl|hx
  .exact⟨h1,h2⟩
  exact h4 x hx
theorem Du{u v:Int}{i:Nat}{e:Pr}(hi:es[i]? =some e)(h1:e.1=u)(h2:e.2=v):CZ es u v (2*(i:Int)):=by
 have hl:=(A1e.1 hi).1;obtain⟨e',a,he,ha⟩:=Cq (es:=es) (h:=2*(i:Int)) (by omega) (by omega);rcases ha with⟨q1,q2,q3⟩|⟨q1,q2,q3⟩
 .obtain rfl:e'=i:=by omega
  rw[hi] at he;cases he;exact⟨by omega,by omega,by omega,by omega⟩
 omega
theorem Fj{u v:Int}{i:Nat}{e:Pr}(hi:es[i]? =some e)(h1:e.1=v)(h2:e.2=u):CZ es u v (2*(i:Int)+1):=by
 have hl:=(A1e.1 hi).1;obtain⟨e',a,he,ha⟩:=Cq (es:=es) (h:=2*(i:Int)+1) (by omega) (by omega);rcases ha with⟨q1,q2,q3⟩|⟨q1,q2,q3⟩
 .omega
 obtain rfl:e'=i:=by omega
 rw[hi] at he;cases he;exact⟨by omega,by omega,by omega,by omega⟩
theorem Tq(u v:Int):CZ es u v (G8 u v 0 es)\/(G8 u v 0 es= -1/\∀h,¬CZ es u v h):=by
 rcases KU (u:=u) (v:=v) (l:=es) (k:=0) with⟨i,e,hi,hc⟩|⟨h1,h2⟩
 .left;rw[A2d] at hc;rcases hc with⟨a,b,c⟩|⟨a,b,c⟩
  .rw[c];exact Du hi a b
  rw[c];exact Fj hi a b
 refine .inr ⟨h1,fun h hh=>?_⟩;obtain⟨e,a,he,ha⟩:=Cq hh.lo hh.hi;have:=h2 a (A1h he);have f1:=hh.fr;have f2:=hh.to;rcases ha with⟨q1,q2,q3⟩|⟨q1,q2,q3⟩
 .exact this.1 ⟨by omega,by omega⟩
 exact this.2 ⟨by omega,by omega⟩
end
abbrev F1(v:Value):List PanicEntry:=[{ v:=v,recovered:=false }]
def Nd(w0:World)(K:List Nat)(C D:Value->List Chunk->Prop)(e:Ending)(w:World):Prop:=
 Ret w0 K C e w\/∃pv L,e= .panicked (F1 pv)/\D pv L/\AR w0 K w L
section
variable{P:Program}{ops:Array Oper}{w0 w:World}{K:List Nat}{n:Nat}{ds:List Deferred}{E:Env}{L F:List Chunk}{o:Oper}{r:List Oper}{d:Nat}{x y z:Operand}{v u pv:Value}{Q:Exit->Act->World->Prop}{fn:Func}{C D:Value->List Chunk->Prop}
theorem FP{f:FuncId}{c:Code}{args:List Value}{R:Ending->World->Prop}(hf:P.funcs[f]? =some fn)(hb:fn.body=some c)
 (hn:fn.ntmps=n)(hle:Nat.ble args.length n=true)(hO:AR w K w L)(h:DC P w K n [] (bodyPost P fn R) c (EJ 0 args) L):Calls P f args.toArray w R:=by
 refine calls_of_wp hf hb (h _ _ ⟨?_,rfl,fun t v hv ht=>?_⟩ hO)
 .have:=A1f hle;simp[hn];omega
 obtain⟨_,h2⟩:=Er args 0 t v hv;simp only[A2R] at h2;have hlt:t<args.length:=(A1e.1 h2).1;simp[A3r,hlt];simpa [A1d hlt] using h2
theorem OI{f:FuncId}{c:Code}{args:List Value}{R:Ending->World->Prop}(hf:P.funcs[f]? =some fn)(hb:fn.body=some c)
 (hn:fn.ntmps=n)(hle:Nat.ble args.length n=true)(hO:AR w K w L)(h:DC P w K n [] (bodyPostD P fn R) c (EJ 0 args) L):Calls P f args.toArray w R:=by
 refine calls_of_wp_defers hf hb (h _ _ ⟨?_,rfl,fun t v hv ht=>?_⟩ hO)
 .have:=A1f hle;simp[hn];omega
 obtain⟨_,h2⟩:=Er args 0 t v hv;simp only[A2R] at h2;have hlt:t<args.length:=(A1e.1 h2).1;simp[A3r,hlt];simpa [A1d hlt] using h2
theorem Ga{e:Exit}(he:e= .ret\/e= .normal)(h:Dl w0 K n [] (bodyPost P fn (Ret w0 K C) e) E L):Dl w0 K n [] (bodyPost P fn (Nd w0 K C D) e) E L:=by
 intro a w ha hO;have:=h a w ha hO;rcases he with rfl|rfl
 .obtain⟨h1,v,h2,h3⟩:=this;exact⟨h1,v,h2,.inl h3⟩
 obtain⟨h1,v,h2,h3⟩:=this;exact⟨h1,v,h2,.inl h3⟩
theorem BR(hD:D pv L):Dl w0 K n [] (bodyPost P fn (Nd w0 K C D) (.panic (F1 pv))) E L:=
 fun a w ha hO=>⟨ha.defers,.inr ⟨pv,L,rfl,hD,hO⟩⟩
theorem AI{k:Act->World->Prop}{c:List PanicEntry}(h:Dl w0 K n ds (Q (.panic c)) E L):Dl w0 K n ds (Exit.then k Q (.panic c)) E L:=h
theorem AQ{id:Nat}{c:List PanicEntry}(h:Dl w0 K n ds (Q (.panic c)) E L):Dl w0 K n ds (Exit.inBlock id Q (.panic c)) E L:=h
theorem CN.panic{t:TypeId}(ho:o.op= .panic x)(hx:ev n E x=some (.iface t v))(hw:want n E ops o=some true)(h:Dl w0 K n ds (Q (.panic (F1 (.iface t v)))) E L):
  CN P ops w0 K n ds Q (o::r) E L:=by
 intro a w ha hL;unfold wpList;rw[if_pos (BV hw ha)];refine .inl ?_;unfold Oper.wp;have:(execOp a.eval o).run P w= .halt (.panic (.iface t v)) w:=by
  simp only[execOp,ho,ha.ev hx];rfl
 rw[this,Oper.upon_panic];exact h a w ha hL
theorem GQ{f:FuncId}{xs:Array Operand}{ts:Array Nat}{vs:List Value}{cap:Array Value}{K':List Nat}{Lc:List Chunk}(hd:o.dst=some d)(hw:want n E ops o=some true)(hf:BY P f)(ho:o.op= .call ⟨.value x,xs,ts⟩)
 (hx:ev n E x=some (.func (.func f) #[] cap))(hxs:Vl n E xs.toList=some vs)(hL:L.Perm (Lc++F))(hK:∀k,k∈K'->k∈AY Lc)
 (hcon:∀w,AR w0 K w L->Calls P f (vs.toArray++cap) w (Nd w K' C D))
 (hp:∀pv L',D pv L'->Dl w0 K n ds (Q (.panic (F1 pv))) E (L'++F))
 (h:∀v L',C v L'->CN P ops w0 K n ds Q r ((d,v)::E) (L'++F)):CN P ops w0 K n ds Q (o::r) E L:=by
 intro a w ha hw';unfold wpList;rw[if_pos (BV hw ha)];refine .inl ?_;unfold Oper.wp;rw[GG hf ho ha hx hxs,Oper.upon_enter];refine Calls.mono (hcon w hw') ?_;rintro e w' (⟨v,L',rfl,hC,hO⟩|⟨pv,L',rfl,hD,hO⟩)
 .rw[hd];exact h v L' hC _ _ (ha.put (some d) _) (AR.frame (hw'.perm hL.symm) hO hK)
 exact hp pv L' hD _ _ ha (AR.frame (hw'.perm hL.symm) hO hK)
theorem CJ{f:FuncId}{xs:Array Operand}{ts:Array Nat}{vs:List Value}{cap:Array Value}{D:Value->Prop}{C:Value->Prop}(hd:o.dst=some d)(hw:want n E ops o=some true)(hf:BY P f)(ho:o.op= .call ⟨.value x,xs,ts⟩)
 (hx:ev n E x=some (.func (.func f) #[] cap))(hxs:Vl n E xs.toList=some vs)
 (hcon:∀w,AR w0 K w L->Calls P f (vs.toArray++cap) w (Nd w [] (fun v M=>M=[]/\C v) (fun v M=>M=[]/\D v)))
 (hp:∀pv,D pv->Dl w0 K n ds (Q (.panic (F1 pv))) E L)
 (h:∀v,C v->CN P ops w0 K n ds Q r ((d,v)::E) L):CN P ops w0 K n ds Q (o::r) E L:=
 GQ (Lc:=[]) (F:=L) hd hw hf ho hx hxs (.refl _) (fun k hk=>by simp at hk) hcon (fun pv L' ⟨e,hD⟩=>by subst e;exact hp pv hD) (fun v L' ⟨e,hC⟩=>by subst e;exact h v hC)
theorem CN.defer{f:Fn}{cap:Array Value}{ts:Array Nat}(hd:o.dst=none)(hw:want n E ops o=some true)(ho:o.op= .defer ⟨.value x,#[],ts⟩)(hx:ev n E x=some (.func f #[] cap))
 (h:CN P ops w0 K n ({ target:=.fn f cap,args:=#[] }::ds) Q r E L):CN P ops w0 K n ds Q (o::r) E L:=by
 intro a w ha hL;unfold wpList;rw[if_pos (BV hw ha)];refine .inl ?_;unfold Oper.wp;have:(execOp a.eval o).run P w= .ok (.defer { target:=.fn f cap,args:=#[] }) w:=by
  simp[execOp,ho,resolve,ha.ev hx,Deferred.ofValue]
 rw[this,Oper.upon_defer,hd];exact h _ _ ⟨ha.size,by show _::a.defers=_;rw[ha.defers],ha.has⟩ hL
end
inductive Rcv:FrameMode->Value->FrameMode->Prop
 | some (v:Value) (older:List PanicEntry):Rcv (.panicking ({ v:=v,recovered:=false }::older)) v (.panicking ({ v:=v,recovered:=true }::older))
 | none:Rcv .returning .nilIface .returning
section
variable{P:Program}{ops:Array Oper}{w0 w:World}{K:List Nat}{n:Nat}{ds:List Deferred}{E:Env}{L F:List Chunk}{o:Oper}{r:List Oper}{d:Nat}{x y z:Operand}{v u pv:Value}{Q:Exit->Act->World->Prop}{fn:Func}{C D:Value->List Chunk->Prop}
theorem Q6{m m':FrameMode}(h:Rcv m v m')(c:Frame)(hc:c.mode=m)(cs:List Frame):
  (recoverD (c::cs)=some (v,{ c with mode:=m' }::cs))\/(recoverD (c::cs)=none/\v= .nilIface/\{ c with mode:=m' }=c):=by
 cases h with
 | some v older=>left;simp[recoverD,hc]
 | none=>
  right;refine⟨by simp[recoverD,hc],rfl,?_⟩;cases c;simp_all
theorem Ht{f:FuncId}{args:List Value}{o1 o2:Oper}{id t t':Nat}{ts:Array Nat}{rest:Code}{m m':FrameMode}{R:Ending->World->Prop}(hf:P.funcs[f]? =some fn)(hb:fn.body=some (.seq (.region id #[o1,o2] false) rest))
 (hn:fn.ntmps=n)(hle:Nat.ble args.length n=true)(h1:o1.op= .call ⟨.builtin .recover,#[],ts⟩)(g1:o1.guard=none)(d1:o1.dst=some t)(h2:o2.op= .assign (.tmp t))(g2:o2.guard=none)(d2:o2.dst=some t')(ht:Nat.blt t n=true)
 (hr:Rcv m v m')(hO:AR w K w L)(h:DC P w K n [] (bodyPost P fn R) rest ((t',v)::(t,v)::EJ 0 args) L):
  CallsD P f args.toArray m w (fun e u' w'=>u'=m'/\R e w'):=by
 have hsat:DM n [] (EJ 0 args) { tmps:=args.toArray++Array.replicate (fn.ntmps-args.toArray.size) undef,defers:=[] }:=by
  refine⟨?_,rfl,fun t v hv ht=>?_⟩
  .have:=A1f hle;simp[hn];omega
  obtain⟨_,h2⟩:=Er args 0 t v hv;simp only[A2R] at h2;have hlt:t<args.length:=(A1e.1 h2).1;simp[A3r,hlt];simpa [A1d hlt] using h2
 refine callsD_of_wpS hf hb fun c₀ cs hu=>?_;generalize ({ tmps:=args.toArray++Array.replicate (fn.ntmps-args.toArray.size) undef,defers:=[] }:Act)=a at hsat;refine wpS_seq (wpS_region ?_);have hl:List.range (#[o1,o2]:Array Oper).size=[0,1]:=rfl;rw[hl];have hs1:DM n [] ((t,v)::EJ 0 args) (a.put (some t) v):=hsat.put (some t) v;have hs2:DM n [] ((t',v)::(t,v)::EJ 0 args) ((a.put (some t) v).put (some t') v):=hs1.put (some t') v;have hw1:Region.wanted o1 (yielded #[o1,o2] a.tmps)=true:=by simp[Region.wanted,g1]
 have hw2:Region.wanted o2 (yielded #[o1,o2] (a.put (some t) v).tmps)=true:=by simp[Region.wanted,g2]
 have hx1:(execOp a.eval o1).run P w= .ok .recover w:=by simp[execOp,h1,resolve,invoke,builtin]
 have hev:(a.put (some t) v).eval (.tmp t)=v:=hs1.ev (x:=.tmp t) (by
  show(bif Nat.blt t n then Env.get ((t,v)::EJ 0 args) t else none)=some v;rw[ht,B5,if_pos rfl];rfl);have hx2:(execOp (a.put (some t) v).eval o2).run P w= .ok (.value v) w:=by simp[execOp,h2,hev]
 have fin:rest.wpS P (bodyPostS P fn c₀ cs fun e u' w'=>u'=m'/\R e w') ((a.put (some t) v).put (some t') v) ({ c₀ with mode:=m' }::cs) w:=by
  refine wpS_of_wp (wp_mono (h _ _ hs2 hO) ?_);intro e a' w' hq;cases e with
  | normal=>obtain⟨e1,v,e2,e3⟩:=hq;exact⟨e1,m',rfl,v,e2,rfl,e3⟩
  | ret=>obtain⟨e1,v,e2,e3⟩:=hq;exact⟨e1,m',rfl,v,e2,rfl,e3⟩
  | panic ch=>obtain⟨e1,e2⟩:=hq;exact⟨e1,m',rfl,rfl,e2⟩
  | outgrown=>exact⟨m',rfl,hq⟩
  | exit id=>exact hq.elim
  | goto l=>exact hq.elim
 have hp1:(#[o1,o2]:Array Oper)[0]? =some o1:=rfl;have hp2:(#[o1,o2]:Array Oper)[1]? =some o2:=rfl;simp only[wpOpsS,hp1,hw1,if_true,hx1];rcases Q6 hr c₀ hu cs with hre|⟨hre,rfl,he⟩
 .rw[hre];simp only[hp2,d1,hw2,if_true,hx2,Oper.upon_value,d2];exact fin
 rw[hre];simp only[hp2,d1,hw2,if_true,hx2,Oper.upon_value,d2];rw[he] at fin;exact fin
theorem HC{f:FuncId}{cap:List Value}{R:Ending->World->Prop}{m m':FrameMode}{Lc:List Chunk}{K':List Nat}{Cd:Value->List Chunk->Prop}(hf:BY P f)(hm:m≠.run)(hs:settle m'= .returning)
 (hL:L.Perm (Lc++F))(hK:∀k,k∈K'->k∈AY Lc)(hcl:∀w,AR w0 K w L->CallsD P f cap.toArray m w (fun e u' w'=>u'=m'/\Ret w K' Cd e w'))
 (h:∀r L',Cd r L'->∀a w,DM n [{ target:=.fn (.func f) cap.toArray,args:=#[] }] E a->AR w0 K w (L'++F)->∃v,(results fn a.tmps).run P w= .ok v w/\R (.returned v) w):
  Dl w0 K n [{ target:=.fn (.func f) cap.toArray,args:=#[] }] (fun a w=>Leaves P fn a.tmps R a.defers m w) E L:=by
 intro a w ha hw;obtain⟨fn',h1,h2,h3⟩:=hf.go;have h4:¬fn'.name = "runtime.NumGoroutine" := by simpa using h2
 have h5:¬fn'.body=none:=fun e=>by rw[e] at h3;cases h3
 show Leaves P fn a.tmps R a.defers m w;rw[ha.defers];refine leaves_cons (f:=f) (args:=cap.toArray) hm (by simp[invoke,callFunc,h1,h4,h5]) ?_;refine(hcl w hw).mono ?_;rintro e u' w' ⟨rfl,v,L',rfl,hC,hO⟩;show Leaves P fn a.tmps R [] (settle u') w';rw[hs];exact h v L' hC a w' ha (AR.frame (hw.perm hL.symm) hO hK)
theorem SR{R:Ending->World->Prop}(h:Dl w0 K n ds (fun a w=>Leaves P fn a.tmps R a.defers .returning w) E L):Dl w0 K n ds (bodyPostD P fn R .ret) E L:=h
theorem Nh{R:Ending->World->Prop}{c:List PanicEntry}(h:Dl w0 K n ds (fun a w=>Leaves P fn a.tmps R a.defers (.panicking c) w) E L):Dl w0 K n ds (bodyPostD P fn R (.panic c)) E L:=h
theorem DF{ty:TypeId}{g i t:Nat}{cs:Array Value}{w:World}(hg:w.heap[g]? =some (.cells cs t (0,0)))(ht:CG P ty=some false)(hv:cs[i]? =some v):(loadVar ty ⟨g,i,none⟩).run P w= .ok v w:=by
 have h1:w.cell? ⟨g,i,none⟩=some v:=by rw[cell_of_row w g i cs t (0,0) hg];exact hv
 simp[loadVar,HW ht,h1]
theorem Kq{fn:Func}{p q:Tmp}{ty ty':TypeId}(hr:fn.results=#[.cell p ty,.cell q ty']){tmps:Array Value}{ad ad':Addr}{v u:Value}{w:World}(hp:tmps.getD p undef= .pointer (some ad))(hq:tmps.getD q undef= .pointer (some ad'))
 (h1:(loadVar ty ad).run P w= .ok v w)(h2:(loadVar ty' ad').run P w= .ok u w):(results fn tmps).run P w= .ok (.tuple #[v,u]) w:=by
 simp only[Array.getD_eq_getD_getElem?] at hp hq;simp[results,hr,hp,hq,asAddr,h1,h2]
theorem N7{fn:Func}{p q s:Tmp}{ty ty' ty'':TypeId}(hr:fn.results=#[.cell p ty,.cell q ty',.cell s ty'']){tmps:Array Value}{ad ad' ad'':Addr}{v u x:Value}{w:World}(hp:tmps.getD p undef= .pointer (some ad))(hq:tmps.getD q undef= .pointer (some ad'))
 (hs:tmps.getD s undef= .pointer (some ad''))(h1:(loadVar ty ad).run P w= .ok v w)(h2:(loadVar ty' ad').run P w= .ok u w)(h3:(loadVar ty'' ad'').run P w= .ok x w):(results fn tmps).run P w= .ok (.tuple #[v,u,x]) w:=by
 simp only[Array.getD_eq_getD_getElem?] at hp hq hs;simp[results,hr,hp,hq,hs,asAddr,h1,h2,h3]
end
section
variable{κ:Type}[DecidableEq κ]
def Ea(x:κ):List (κ×Value)->Nat->Option (Nat×Value)
 | [],_=>none
 | (y,v)::r,i=>if x=y then some (i,v) else Ea x r (i+1)
def HP(m:List (κ×Value))(x:κ):Option Value:=(Ea x m 0).map (·.2)
def EA(x:κ)(v:Value):List (κ×Value)->List (κ×Value)
 | []=>[(x,v)]
 | (y,u)::r=>if x=y then(x,v)::r else(y,u)::EA x v r
theorem Ib(x:κ):∀(m:List (κ×Value)) (i:Nat),Ea x m i=(Ea x m 0).map fun p=>(p.1+i,p.2)
 | [],i=>rfl
 | (y,v)::r,i=>by
  unfold Ea;split
  .simp
  rw[Ib x r (i+1),Ib x r (0+1)];cases Ea x r 0<;>simp;omega
@[simp] theorem lkM_nil (x:κ):HP ([]:List (κ×Value)) x=none:=rfl
theorem EE(y:κ)(v:Value)(r:List (κ×Value))(x:κ):HP ((y,v)::r) x=if x=y then some v else HP r x:=by
 show(if x=y then some (0,v) else Ea x r 1).map (·.2)=if x=y then some v else(Ea x r 0).map (·.2)
 split
 .rfl
 rw[Ib x r 1];cases Ea x r 0<;>rfl
theorem Hh(x:κ)(v:Value)(y:κ):∀m:List (κ×Value),HP (EA x v m) y=if y=x then some v else HP m y
 | []=>by simp[EA,EE]
 | (z,u)::r=>by
  unfold EA;split
  .rename_i h;subst h;rw[EE,EE];split<;>rfl
  rename_i h;rw[EE,EE,Hh x v y r];by_cases h1:y=z
  .subst h1;rw[if_pos rfl,if_pos rfl,if_neg (Ne.symm h)]
  rw[if_neg h1,if_neg h1]
theorem Kr(x:κ)(v:Value):∀m:List (κ×Value),(EA x v m).map (·.1)=if(HP m x).isSome then m.map (·.1) else m.map (·.1)++[x]
 | []=>by simp[EA]
 | (z,u)::r=>by
  unfold EA;rw[EE];split
  .rename_i h;simp[h]
  simp only[A1M,Kr x v r];split<;>simp
theorem U8{m:List (κ×Value)}{x:κ}{v:Value}(h:HP m x=some v):(x,v)∈m:=by
 induction m with
 | nil=>simp at h
 | cons p r ih=>
  obtain⟨y,u⟩:=p;rw[EE] at h;split at h
  .rename_i e;cases h;subst e;exact A1m ..
  exact A1q _ (ih h)
theorem MA{m:List (κ×Value)}{x:κ}(h:HP m x=none):x∉m.map (·.1):=by
 induction m with
 | nil=>simp
 | cons p r ih=>
  obtain⟨y,u⟩:=p;rw[EE] at h;split at h
  .cases h
  rename_i e;simp only[A1M,A1H,not_or];exact⟨e,ih h⟩
theorem TO{m:List (κ×Value)}(hn:(m.map (·.1)).Nodup){x:κ}{v:Value}(h:(x,v)∈m):HP m x=some v:=by
 induction m with
 | nil=>cases h
 | cons p r ih=>
  obtain⟨y,u⟩:=p;simp only[A1M,A1Z] at hn;rw[EE];rcases A1H.1 h with h|h
  .cases h;rw[if_pos rfl]
  rw[if_neg (fun e=>hn.1 (A1G.2 ⟨(x,v),h,e⟩))];exact ih hn.2 h
theorem Tr{x:κ}{v:Value}{m:List (κ×Value)}(hn:(m.map (·.1)).Nodup):((EA x v m).map (·.1)).Nodup:=by
 rw[Kr];split
 .exact hn
 rename_i h;rw[A1I];refine⟨hn,by simp,?_⟩;intro a ha b hb e;simp at hb;subst hb;subst e;exact MA (by simpa using h) ha
structure Ux (P:Program) (kt:TypeId) (enc:κ->Value):Prop where
 chk:∀e x w,(Instr.checkKey e 10000 kt (enc x)).run P w= .ok () w
 find:∀x (l:List MapEntry) (m:List (κ×Value)) w,l.map (fun e=>(e.key,e.val))=m.map (fun p=>(enc p.1,p.2))->(Instr.findKey kt (enc x) l).run P w= .ok (Ea x m 0) w
 same:∀x,Instr.sameBits 10000 (enc x) (enc x)=true
def Ej(enc:κ->Value)(g:Nat)(m:List (κ×Value)):Chunk:=
 ⟨[g],fun w=>∃es clock,w.heap[g]? =some (.map es clock)/\es.toList.map (fun e=>(e.key,e.val))=m.map (fun p=>(enc p.1,p.2))/\(es.toList.map (·.born)).Nodup/\∀e,e∈es.toList->e.born<clock,
  fun w w' h hh=>by obtain⟨es,c,h1,h2⟩:=hh;exact⟨es,c,(h g (A1m ..)).trans h1,h2⟩⟩
theorem It{w0 w:World}{K:List Nat}{L:List Chunk}{c:Chunk}(i:Nat)(h:L[i]? =some c)(hw:AR w0 K w L):c.holds w:=hw.holds c (A1h h)
variable{P:Program}{ops:Array Oper}{w0 w:World}{K:List Nat}{n:Nat}{ds:List Deferred}{E:Env}{L F:List Chunk}{o:Oper}{x y z:Operand}{v u:Value}{enc:κ->Value}{kt et:TypeId}{m:List (κ×Value)}{g:Nat}
theorem GI{t:TypeId}(ho:o.op= .makeMap t none):A0o P w0 K n ds E L o (fun v M=>∃g,v= .map (some g)/\M=[Ej enc g []]):=by
 intro a w ha hw;have hr:(execOp a.eval o).run P w= .ok (.value (.map (some w.heap.size))) (w.alloc (.map #[] 0)):=by
  simp only[execOp,ho];rfl
 refine B1.value hr ⟨_,⟨w.heap.size,rfl,rfl⟩,?_⟩;refine⟨rfl,rfl,rfl,Lo.refl _,by simp,fun k hk _=>?_,by simp[Ej],fun g hg=>?_,fun g hg=>?_,fun c hc=>?_⟩
 .simp only[World.alloc,A3b];rw[if_neg (by omega)]
 .simp[Ej] at hg;subst hg;exact .inr (A1F _)
 .simp[Ej] at hg;subst hg;simp
 simp at hc;subst hc;exact⟨#[],0,by simp only[World.alloc,A3b];rw[if_pos trivial],by simp,by simp,by simp⟩
theorem Fd{t:TypeId}{ok:Bool}{k:κ}{zv:Value}(i:Nat)(hi:L[i]? =some (Ej enc g m))(hK:Ux P kt enc)(ho:o.op= .lookup t x y ok)(hx:ev n E x=some (.map (some g)))(hy:ev n E y=some (enc k))
 (ht:P.underlying t=some (.map kt et))(hz:B2 P et=some zv)(hv:(if ok then .tuple #[(HP m k).getD zv,.bool (HP m k).isSome] else(HP m k).getD zv)=v):Val P w0 K n ds E L o v:=by
 intro a w ha hw;obtain⟨es,clock,h1,h2,_⟩:=It i hi hw;have hg:(getObj g).run P w= .ok (.map es clock) w:=by simp[getObj,Sem.run,h1]
 have hf:=hK.find k es.toList m w h2;have hc:=hK.chk es.isEmpty k w;subst hv;simp only[execOp,ho,ha.ev hx,ha.ev hy,Instr.lookup,Sem.run_bind,run_underlying ht,Result.andThen_ok,hg,hc,hf,Sem.run_pure];unfold HP;cases hfm:Ea k m 0 with
 | none=>simp only[Sem.run_bind,Ip hz,Result.andThen_ok,Sem.run_pure];cases ok<;>rfl
 | some p=>simp only[Sem.run_bind,Result.andThen_ok,Sem.run_pure];cases ok<;>rfl
theorem HZ:∀{L:List Chunk} {i:Nat} {c c':Chunk},L[i]? =some c->(L.set i c').Perm (c'::L.eraseIdx i)
 | [],i,c,c',h=>by simp at h
 | y::L,0,c,c',h=>by simp
 | y::L,i+1,c,c',h=>by
  simp only[A2P] at h;simp only[List.set_cons_succ,A2Q];exact((HZ h).cons y).trans (.swap _ _ _)
theorem Ro{i:Nat}{c c':Chunk}{ob:Obj}(hi:c.ids=[g])(hi':c'.ids=[g])(hw:AR w0 K w L)(hl:L[i]? =some c)(hc:∀w':World,w'.heap[g]? =some ob->c'.holds w'):
  AR w0 K { w with heap:=w.heap.setIfInBounds g ob } (L.set i c'):=by
 have hlt:g<w.heap.size:=hw.lt g (KC.2 ⟨c,A1h hl,by rw[hi];exact A1m ..⟩);have h1:AR w [g] { w with heap:=w.heap.setIfInBounds g ob } [c']:=by
  refine⟨rfl,rfl,rfl,Lo.refl _,by simp,fun k hk hn=>?_,by simp[hi'],fun x hx=>?_,fun x hx=>?_,fun d hd=>?_⟩
  .simp at hn;show(w.heap.setIfInBounds g ob)[k]? =_;rw[A2L (by omega)]
  .simp[hi'] at hx;subst hx;exact .inl (by simp)
  .simp[hi'] at hx;subst hx;simpa using hlt
  simp at hd;subst hd;refine hc _ ?_;show(w.heap.setIfInBounds g ob)[g]? =_;simp[hlt]
 exact(AR.frame (Lc:=[c]) (hw.perm (Bj hl).symm) h1 (fun k hk=>by simp[hi] at hk ⊢;exact hk)).perm (HZ hl)
theorem Ox{k:κ}:∀{m:List (κ×Value)} {i j:Nat} {v:Value},Ea k m i=some (j,v)->i<=j/\m[j-i]? =some (k,v)/\∀u,EA k u m=m.set (j-i) (k,u)
 | [],i,j,v,h=>by cases h
 | (y,x)::r,i,j,v,h=>by
  unfold Ea at h;split at h
  .rename_i e;cases h;subst e;refine⟨A1F _,by simp,fun u=>by simp[EA]⟩
  rename_i e;obtain⟨h1,h2,h3⟩:=Ox h;refine⟨by omega,?_,fun u=>?_⟩
  .rw[show j-i=(j-(i+1))+1 by omega,A2P];exact h2
  unfold EA;rw[if_neg e,h3 u,show j-i=(j-(i+1))+1 by omega,List.set_cons_succ]
theorem MR{k:κ}{u:Value}:∀{m:List (κ×Value)} {i:Nat},Ea k m i=none->EA k u m=m++[(k,u)]
 | [],i,h=>rfl
 | (y,x)::r,i,h=>by
  unfold Ea at h;split at h
  .cases h
  rename_i e;unfold EA;rw[if_neg e,MR h];rfl
theorem Dm{t:TypeId}{k:κ}(i:Nat)(hi:L[i]? =some (Ej enc g m))(hK:Ux P kt enc)(ho:o.op= .mapUpdate t x y z)(hx:ev n E x=some (.map (some g)))(hy:ev n E y=some (enc k))(hz:ev n E z=some u)
 (ht:P.underlying t=some (.map kt et)){L':List Chunk}(hL':L.set i (Ej enc g (EA k u m))=L'):Sto P w0 K n ds E L o L':=by
 intro a w ha hw;subst hL';obtain⟨es,clock,h1,h2,h3,h4⟩:=It i hi hw;have hg:(getObj g).run P w= .ok (.map es clock) w:=by simp[getObj,Sem.run,h1]
 have hf:=hK.find k es.toList m w h2;have hc:=hK.chk false k w;have hlen:es.toList.length=m.length:=by have:=congrArg List.length h2;simpa using this
 cases hfm:Ea k m 0 with
 | none=>
  have hs:(setObj g (.map (es.push { key:=enc k,val:=u,born:=clock }) (clock+1))).run P w= .ok () { w with heap:=w.heap.setIfInBounds g (.map (es.push { key:=enc k,val:=u,born:=clock }) (clock+1)) }:=by simp[setObj,Sem.run,h1]
  refine⟨_,?_,Ro (ob:=.map (es.push { key:=enc k,val:=u,born:=clock }) (clock+1)) rfl rfl hw hi fun w' hw'=>⟨_,_,hw',?_,?_,?_⟩⟩
  .simp only[execOp,ho,ha.ev hx,ha.ev hy,ha.ev hz,Instr.mapUpdate,Sem.run_bind,run_underlying ht,Result.andThen_ok,hg,hc,hf,hfm,hs,Sem.run_pure]
  .rw[MR hfm,Array.toList_push,A1Y,h2];simp
  .rw[Array.toList_push,A1Y,A1I];refine⟨h3,by simp,fun a ha b hb=>?_⟩;simp at hb;subst hb;obtain⟨e,he,rfl⟩:=A1G.1 ha;have:=h4 e he;omega
  intro e he;rw[Array.toList_push,A1C] at he;rcases he with he|he
  .have:=h4 e he;omega
  simp at he;subst he;exact Nat.lt_succ_self _
 | some p=>
  obtain⟨j,v0⟩:=p;obtain⟨_,hmj,hput⟩:=Ox hfm;simp only[A2R] at hmj hput;have hj:j<es.size:=by have:=(A1e.1 hmj).1;rw[<-hlen] at this;simpa using this
  have hkey:(es[j]'hj).key=enc k:=by
   have h5:(es.toList.map fun e=>(e.key,e.val))[j]? =some ((es[j]'hj).key,(es[j]'hj).val):=by simp[hj]
   rw[h2] at h5;simp[hmj] at h5;exact h5.1.symm
  have hkt:(Instr.keyThatStays (((es[j]?).map (·.key)).getD (enc k)) (enc k)).run P w= .ok (enc k) w:=by
   simp[Instr.keyThatStays,hj,hkey,hK.same k]
  have hs:(setObj g (.map (es.modify j fun e=>{ e with key:=enc k,val:=u }) clock)).run P w= .ok () { w with heap:=w.heap.setIfInBounds g (.map (es.modify j fun e=>{ e with key:=enc k,val:=u }) clock) }:=by simp[setObj,Sem.run,h1]
  have hml:(es.modify j fun e=>{ e with key:=enc k,val:=u }).toList=es.toList.set j { (es[j]'hj) with key:=enc k,val:=u }:=by
   apply A2z;intro q;simp only[Array.getElem?_toList,A2O,A3k,A3e];by_cases hq:j=q
   .subst hq;simp[hj]
   simp[hq]
  refine⟨_,?_,Ro (ob:=.map (es.modify j fun e=>{ e with key:=enc k,val:=u }) clock) rfl rfl hw hi fun w' hw'=>⟨_,_,hw',?_,?_,?_⟩⟩
  .simp only[execOp,ho,ha.ev hx,ha.ev hy,ha.ev hz,Instr.mapUpdate,Sem.run_bind,run_underlying ht,Result.andThen_ok,hg,hc,hf,hfm,hkt,hs,Sem.run_pure]
  .rw[hput,hml,A3t,h2,A3t]
  .rw[hml,A3t];have:(es.toList.map (·.born)).set j (es[j]'hj).born=es.toList.map (·.born):=by
    apply A2z;intro q;rw[A3k];split
    .rename_i e;subst e;simp[hj]
    rfl
   rw[this];exact h3
  intro e he;rw[hml] at he;rcases List.mem_or_eq_of_mem_set he with he|rfl
  .exact h4 e he
  exact h4 (es[j]'hj) (by simp)
end
def encI(x:Int):Value:=.int .i64 x
def encP(p:Pr):Value:=.agg #[.int .i64 p.1,.int .i64 p.2]
section
variable{P:Program}{w:World}{kt:TypeId}
theorem keyI(h:P.underlying kt=some (.int .i64)):Ux P kt encI:=by
 refine⟨fun e x w=>?_,fun x l m w hl=>?_,fun x=>by simp[Instr.sameBits,encI]⟩
 .have:∀q,(Instr.checkKey e (q+1) kt (.int .i64 x)).run P w= .ok () w:=fun q=>by simp[Instr.checkKey,run_underlying h]
  exact this 9999
 have key:∀(l:List MapEntry) (m:List (Int×Value)) (i:Nat),l.map (fun e=>(e.key,e.val))=m.map (fun p=>(encI p.1,p.2))->Instr.findNow (.int .i64) (encI x) l i=some (Ea x m i):=by
  intro l
  induction l with
  | nil=>
   intro m i hl;cases m with
   | nil=>rfl
   | cons p m=>simp at hl
  | cons e r ih=>
   intro m i hl;cases m with
   | nil=>simp at hl
   | cons p m=>
    obtain⟨y,v⟩:=p;simp only[A1M,List.cons.injEq,Prod.mk.injEq] at hl;obtain⟨⟨h1,h2⟩,h3⟩:=hl;simp only[Instr.findNow,h1,encI,Instr.sameNow,if_true];by_cases hxy:x=y
    .subst hxy;simp[Ea,h2]
    have:(x==y)=false:=by simpa using hxy
    simp only[this,Ea,if_neg hxy];exact ih m (i+1) h3
 simp only[Instr.findKey,Sem.run_bind,run_underlying h,Result.andThen_ok,key l m 0 hl,Sem.run_pure]
theorem YJ{enc:Pr->Value}(hwide:(match P.underlying kt with|some (.array _ _)|some (.struct _)=>true|_=>false)=true)(hc:∀e x w,(Instr.checkKey e 10000 kt (enc x)).run P w= .ok () w)
 (he:∀x y w,(Op.equal kt (enc x) (enc y)).run P w= .ok (decide (x=y)) w)(hs:∀x,Instr.sameBits 10000 (enc x) (enc x)=true):Ux P kt enc:=by
 refine⟨hc,fun x l m w hl=>?_,hs⟩;have key:∀(l:List MapEntry) (m:List (Pr×Value)) (i:Nat),l.map (fun e=>(e.key,e.val))=m.map (fun p=>(enc p.1,p.2))->(Instr.findAsking kt (enc x) l i).run P w= .ok (Ea x m i) w:=by
  intro l
  induction l with
  | nil=>
   intro m i hl;cases m with
   | nil=>rfl
   | cons p m=>simp at hl
  | cons e r ih=>
   intro m i hl;cases m with
   | nil=>simp at hl
   | cons p m=>
    obtain⟨y,v⟩:=p;simp only[A1M,List.cons.injEq,Prod.mk.injEq] at hl;obtain⟨⟨h1,h2⟩,h3⟩:=hl;simp only[Instr.findAsking,Sem.run_bind,h1,he,Result.andThen_ok];by_cases hxy:x=y
    .subst hxy;simp[Ea,h2]
    simp only[hxy,decide_false,A2u,if_false,Ea];exact ih m (i+1) h3
 rw[run_findKey_eq w hwide];exact key l m 0 hl
theorem sameP(x:Pr):Instr.sameBits 10000 (encP x) (encP x)=true:=by simp[Instr.sameBits,encP]
theorem equalS(h:H0 P kt=true)(x y:Pr)(w:World):(Op.equal kt (encP x) (encP y)).run P w= .ok (decide (x=y)) w:=by
 have:=GE (P:=P) (w:=w) (a:=x.1) (b:=x.2) (c:=y.1) (d:=y.2) h 9998;unfold Op.equal Op.maxDepth encP;rw[this]
 congr 1
 exact decide_eq_decide.2 ⟨fun⟨a,b⟩=>Prod.ext a b,fun e=>by subst e;exact⟨rfl,rfl⟩⟩
def arr2T(P:Program)(t:TypeId):Bool:=
 match P.underlying t with
 | some (.array 2 e)=>TX P e&&P.cellsOf e==1&&(P.info? e).isSome
 | _=>false
theorem equalA(h:arr2T P kt=true)(x y:Pr)(w:World):(Op.equal kt (encP x) (encP y)).run P w= .ok (decide (x=y)) w:=by
 unfold arr2T at h;split at h
 .rename_i e hu;simp only[A1P,beq_iff_eq] at h;obtain⟨⟨h1,h2⟩,h3⟩:=h;obtain⟨i,hi⟩:=Option.isSome_iff_exists.1 h3;have hr:=run_equalIn_array (P:=P) w 9999 #[.int .i64 x.1,.int .i64 x.2] #[.int .i64 y.1,.int .i64 y.2] hu hi;unfold Op.equal Op.maxDepth encP;rw[hr,h2];have hl:List.range 2=[0,1]:=rfl;rw[hl];simp only[Op.eqItems,Sem.run_bind];rw[C9 (u:=.int .i64 x.1) h1 (by rfl),Result.andThen_ok,C9 (u:=.int .i64 y.1) h1 (by rfl),Result.andThen_ok,G5 9998 h1,Result.andThen_ok];by_cases hac:x.1=y.1
  .have e1:(x.1==y.1)=true:=by simpa using hac
   simp only[e1,Bool.not_true,A2u,if_false,Sem.run_bind];rw[C9 (u:=.int .i64 x.2) h1 (by rfl),Result.andThen_ok,C9 (u:=.int .i64 y.2) h1 (by rfl),Result.andThen_ok,G5 9998 h1,Result.andThen_ok];by_cases hbd:x.2=y.2
   .have:x=y:=Prod.ext hac hbd;simp[this]
   have e2:(x.2==y.2)=false:=by simpa using hbd
   have:x≠y:=fun e=>hbd (by rw[e]);simp[e2,this]
  have e1:(x.1==y.1)=false:=by simpa using hac
  have:x≠y:=fun e=>hac (by rw[e]);simp[e1,this]
 cases h
end
end Go.Fl
