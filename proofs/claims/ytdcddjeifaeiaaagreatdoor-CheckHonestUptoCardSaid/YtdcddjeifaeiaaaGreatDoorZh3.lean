/- Part 3 of the proof: the library of the walk and the walks, in build order; no condition. -/
import Derived.Test.YtdcddjeifaeiaaaGreatDoorZh2
set_option linter.unusedVariables false
set_option linter.unusedSimpArgs false
set_option linter.unusedSectionVars false
set_option maxRecDepth 100000
namespace Go.Fl
open Go Go.Proofs
theorem JU{α:Type}(b:α->Nat):∀{l:List α} {j:Nat} {e:α},(l.map b).Nodup->l[j]? =some e->l.filter (fun x=>b x !=b e)=l.eraseIdx j
 | [],j,e,_,h=>by simp at h
 | x::r,0,e,hn,h=>by
  simp at h;subst h;simp only[A1M,A1Z] at hn;rw[A3P,if_neg (by simp),A3C,A3D];intro y hy;have:b y≠b x:=fun e=>hn.1 (by rw[<-e];exact List.mem_map_of_mem hy);simpa using this
 | x::r,j+1,e,hn,h=>by
  simp only[A2P] at h;simp only[A1M,A1Z] at hn;have:b x≠b e:=fun e'=>hn.1 (by rw[e'];exact List.mem_map_of_mem (A1h h));rw[A3P,if_pos (by simpa using this),A2Q,JU b hn.2 h]
section
variable{κ:Type}[DecidableEq κ]
def RA(enc:κ->Value)(gm gi:Nat)(m left:List (κ×Value))(last:Option (κ×Value)):Chunk:=
 ⟨[gm,gi],fun w=>∃es clock seen,w.heap[gm]? =some (.map es clock)/\es.toList.map (fun e=>(e.key,e.val))=m.map (fun p=>(enc p.1,p.2))/\(es.toList.map (·.born)).Nodup/\(∀e,e∈es.toList->e.born<clock)/\
   w.heap[gi]? =some (.mapIter (some gm) clock seen clock)/\(leftOf es seen).toList.map (fun e=>(e.key,e.val))=left.map (fun p=>(enc p.1,p.2))/\
   ∀p,last=some p->∃(e:MapEntry) (s0:Array Nat),e∈es.toList/\seen=s0.push e.born/\e.key=enc p.1/\e.val=p.2,
  fun w w' h hh=>by
   obtain⟨es,c,s,h1,h2,h3,h4,h5,h6⟩:=hh;exact⟨es,c,s,(h gm (by simp)).trans h1,h2,h3,h4,(h gi (by simp)).trans h5,h6⟩⟩
variable{P:Program}{w0 w:World}{K:List Nat}{n:Nat}{ds:List Deferred}{E:Env}{L:List Chunk}{o:Oper}{x:Operand}{v:Value}{enc:κ->Value}{m left:List (κ×Value)}{gm gi:Nat}{v0:Option (κ×Value)}
theorem g_range{t kt et:TypeId}(i:Nat)(hi:L[i]? =some (Ej enc gm m))(ho:o.op= .range t x)(hx:ev n E x=some (.map (some gm)))(ht:P.underlying t=some (.map kt et)):
  SP P w0 K n ds E L o (fun v M=>∃gi,v= .pointer (some ⟨gi,0,none⟩)/\M=L.set i (RA enc gm gi m m none)):=by
 intro a w ha hw;obtain⟨es,clock,h1,h2,h3,h4⟩:=It i hi hw;have hlt:gm<w.heap.size:=(A1t.1 h1).1;have hr:(execOp a.eval o).run P w= .ok (.value (.pointer (some ⟨w.heap.size,0,none⟩))) (w.alloc (.mapIter (some gm) clock #[] clock)):=by
  have hg:(getObj gm).run P w= .ok (.map es clock) w:=by simp[getObj,Sem.run,h1]
  simp only[execOp,ho,ha.ev hx,Instr.range,Sem.run_bind,run_underlying ht,Result.andThen_ok,hg,Sem.run_pure]
  rfl
 refine B1.value hr ⟨_,⟨w.heap.size,rfl,rfl⟩,?_⟩;have hO:AR w [gm] (w.alloc (.mapIter (some gm) clock #[] clock)) [RA enc gm w.heap.size m m none]:=by
  refine⟨rfl,rfl,rfl,Lo.refl _,by simp,fun k hk hn=>?_,?_,fun g hg=>?_,fun g hg=>?_,fun c hc=>?_⟩
  .simp only[World.alloc,A3b];rw[if_neg (by omega)]
  .simp[RA];exact fun e=>by omega
  .simp[RA] at hg;rcases hg with rfl|rfl
   .exact .inl (by simp)
   exact .inr (A1F _)
  .simp[RA] at hg;rcases hg with rfl|rfl
   .simp;omega
   simp
  simp at hc;subst hc;refine⟨es,clock,#[],?_,h2,h3,h4,?_,?_,fun p hp=>by cases hp⟩
  .simp only[World.alloc,A3b];rw[if_neg (by omega)];exact h1
  .simp only[World.alloc,A3b];rw[if_pos trivial]
  have:leftOf es #[]=es:=by simp[leftOf]
  rw[this];exact h2
 exact(AR.frame (Lc:=[Ej enc gm m]) (hw.perm (Bj hi).symm) hO (fun k hk=>by simp[Ej] at hk ⊢;exact hk)).perm (HZ hi)
theorem g_next(i:Nat)(hi:L[i]? =some (RA enc gm gi m left v0))(ho:o.op= .next x false)(hx:ev n E x=some (.pointer (some ⟨gi,0,none⟩))):
  SP P w0 K n ds E L o (fun v M=>(v= .tuple #[.bool false]/\left=[]/\M=L)\/(∃j p,left[j]? =some p/\v= .tuple #[.bool true,enc p.1,p.2]/\M=L.set i (RA enc gm gi m (left.eraseIdx j) (some p)))):=by
 intro a w ha hw;obtain⟨es,clock,seen,h1,h2,h3,h4,h5,h6,h7⟩:=It i hi hw;rcases run_next_at (P:=P) w o.type gi gm clock clock seen es clock h5 h1 h4 (A1F _) with⟨hz,hr⟩|⟨e,he,w1,hw1,hr⟩
 .have hl:left=[]:=by
   have:=congrArg List.length h6;simp only[A1S,A3e,hz] at this;exact A1s this.symm
  refine B1.value (v:=.tuple #[.bool false]) (w':=w) (by simp only[execOp,ho,ha.ev hx,Sem.run_bind,hr,Result.andThen_ok,Sem.run_pure]) ⟨L,.inl ⟨rfl,hl,rfl⟩,hw⟩
 obtain⟨j,hj⟩:=A1j.1 he;have hpj:∃p,left[j]? =some p/\e.key=enc p.1/\e.val=p.2:=by
  have h8:((leftOf es seen).toList.map fun e=>(e.key,e.val))[j]? =some (e.key,e.val):=by rw[A1U,hj];rfl
  rw[h6,A1U,A2o] at h8;obtain⟨p,hp,hpe⟩:=h8;exact⟨p,hp,(congrArg Prod.fst hpe).symm,(congrArg Prod.snd hpe).symm⟩
 obtain⟨p,hp,hk,hv⟩:=hpj;have hees:e∈es.toList:=by
  unfold leftOf at he;rw[Array.toList_filter] at he;exact(A1D.1 he).1
 refine B1.value (v:=.tuple #[.bool true,enc p.1,p.2]) (w':=ChangeMaps.setBlock w1 gi (.mapIter (some gm) clock (seen.push e.born) clock)) (by simp only[execOp,ho,ha.ev hx,Sem.run_bind,hr,Result.andThen_ok,Sem.run_pure,hk,hv]) ⟨_,.inr ⟨j,p,hp,rfl,rfl⟩,?_⟩;have hw1':AR w0 K w1 L:=by
  rcases hw1 with rfl|rfl
  .exact hw
  exact hw.drew
 have hheap:w1.heap=w.heap:=by rcases hw1 with rfl|rfl<;>rfl
 have hne:gm≠gi:=by
  intro e;rw[e,h5] at h1;cases h1
 have hlm:gm<w1.heap.size:=by rw[hheap];exact(A1t.1 h1).1
 have hli:gi<w1.heap.size:=by rw[hheap];exact(A1t.1 h5).1
 have hO:AR w1 [gm,gi] (ChangeMaps.setBlock w1 gi (.mapIter (some gm) clock (seen.push e.born) clock)) [RA enc gm gi m (left.eraseIdx j) (some p)]:=by
  refine⟨rfl,rfl,rfl,Lo.refl _,by simp[ChangeMaps.setBlock],fun k hk hn=>?_,by simp[RA,hne],fun g hg=>.inl (by simpa [RA] using hg),fun g hg=>?_,fun c hc=>?_⟩
  .simp at hn;show(w1.heap.setIfInBounds gi _)[k]? =_;rw[A2L (by omega)]
  .simp[RA] at hg;rcases hg with rfl|rfl<;>simpa [ChangeMaps.setBlock]
  simp at hc;subst hc;refine⟨es,clock,seen.push e.born,?_,h2,h3,h4,?_,?_,fun p' hp'=>?_⟩
  .show(w1.heap.setIfInBounds gi _)[gm]? =_;rw[A2L (by omega),hheap];exact h1
  .show(w1.heap.setIfInBounds gi _)[gi]? =_;simp[hli]
  .have hnd:((leftOf es seen).toList.map (·.born)).Nodup:=by
    unfold leftOf;rw[Array.toList_filter];exact h3.sublist ((A1X).map _)
   have e1:(leftOf es (seen.push e.born)).toList=(leftOf es seen).toList.filter (fun x=>x.born !=e.born):=by
    unfold leftOf;rw[Array.toList_filter,Array.toList_filter,List.filter_filter];apply List.filter_congr;intro y _;by_cases hye:y.born=e.born
    .simp[hye]
    have hye':¬e.born=y.born:=fun h=>hye h.symm;simp[hye,bne]
   rw[e1,JU (·.born) hnd hj,ChangeMaps.map_eraseIdx,h6,ChangeMaps.map_eraseIdx]
  cases hp';exact⟨e,seen,hees,rfl,hk,hv⟩
 exact(AR.frame (Lc:=[RA enc gm gi m left v0]) (hw1'.perm (Bj hi).symm) hO (fun k hk=>by simpa [RA] using hk)).perm (HZ hi)
theorem A0x{p:κ×Value}(i:Nat)(hi:L[i]? =some (RA enc gm gi m left (some p)))(ho:o.op= .entry x)(hx:ev n E x=some (.pointer (some ⟨gi,0,none⟩))):Val P w0 K n ds E L o (.tuple #[enc p.1,p.2]):=by
 intro a w ha hw;obtain⟨es,clock,seen,h1,h2,h3,h4,h5,h6,h7⟩:=It i hi hw;obtain⟨e,s0,he,rfl,hk,hv⟩:=h7 p rfl;have:=run_entry_at (P:=P) w gi gm clock s0 es clock e h5 h1 he h3;simp only[execOp,ho,ha.ev hx,Sem.run_bind,this,Result.andThen_ok,Sem.run_pure,hk,hv]
end
section
variable{P:Program}{n:Nat}{ds:List Deferred}{E:Env}{o:Oper}{x y:Operand}
theorem p_quo2{t t':TypeId}{i q:Int}(ho:o.op= .binOp .quo t x y t')(hx:ev n E x=some (.int .i64 i))(hy:ev n E y=some (.int .i64 2))(hi:i=2*q)(hq: -9223372036854775808<=q/\q<=9223372036854775807):
  EL P n ds E o (.int .i64 q):=Ff (r:=0) ho hx hy fun w=>by
 have h1:i.tdiv 2=q:=by rw[hi];exact Int.mul_tdiv_cancel_left _ (by omega)
 simp[binOp,Op.intDiv,h1,DY (i:=q) ⟨by omega,by omega⟩]
end
section
open Classical
def tl(a b c:Nat):Value:=.agg #[Iv a,Iv b,Iv c]
def Fo(f:Nat->Int)(i:Nat)(x:Int):Nat:=(List.range i).countP fun j=>decide (f j=x)
def Fa(f:Nat->Int)(es:List Pr)(i:Nat)(x:Int):Nat:=(es.take i).countP fun e=>decide (f e.1.toNat=x)
def Gk(es:List Pr)(h:Int):Nat:=((es[(h / 2).toNat]?).getD (0,0)).1.toNat
def HI(f:Nat->Int)(es:List Pr)(hs:List Int)(i:Nat)(x:Int):Nat:=(hs.take i).countP fun h=>decide (f (Gk es h)=x)
def Tal(m:List (Int×Value))(a b c:Int->Nat):Prop:=(m.map (·.1)).Nodup/\∀x,HP m x=if a x=0 then none else some (tl (a x) (b x) (c x))
theorem MY(f:Nat->Int)(i:Nat)(x:Int):Fo f (i+1) x=Fo f i x+if f i=x then 1 else 0:=by
 unfold Fo;rw[A2p,A2r];by_cases h:f i=x<;>simp[h]
theorem O4{m:List (Int×Value)}{a b c:Int->Nat}(h:Tal m a b c)(x:Int)(h0:a x=0->b x=0/\c x=0):(HP m x).getD (tl 0 0 0)=tl (a x) (b x) (c x):=by
 rw[h.2 x];split
 .rename_i e;rw[e,(h0 e).1,(h0 e).2];rfl
 rfl
theorem O3{m:List (Int×Value)}{a b c a' b' c':Int->Nat}(h:Tal m a b c)(x:Int)(hx:a' x≠0)(ho:∀y,y≠x->a' y=a y/\b' y=b y/\c' y=c y):Tal (EA x (tl (a' x) (b' x) (c' x)) m) a' b' c':=by
 refine⟨Tr h.1,fun y=>?_⟩;rw[Hh];by_cases hy:y=x
 .subst hy;rw[if_pos rfl,if_neg hx]
 obtain⟨h1,h2,h3⟩:=ho y hy;rw[if_neg hy,h.2 y,h1,h2,h3]
theorem Sr{f:Nat->Int}{es:List Pr}{i:Nat}{e:Pr}(he:es[i]? =some e)(x:Int):Fa f es (i+1) x=Fa f es i x+if f e.1.toNat=x then 1 else 0:=by
 unfold Fa;rw[A1W,he,A2r];by_cases h:f e.1.toNat=x<;>simp[h]
theorem J3{f:Nat->Int}{n j:Nat}(hj:j<n):Fo f n (f j)≠0:=by
 unfold Fo;have:0<(List.range n).countP fun q=>decide (f q=f j):=List.countP_pos_iff.2 ⟨j,A1r.2 hj,by simp⟩;omega
theorem Ug(f:Nat->Int)(i:Nat)(x:Int):Fo f i x<=i:=by
 unfold Fo;have:=A2n (p:=fun j=>decide (f j=x)) (l:=List.range i);simpa using this
theorem Zv(f:Nat->Int)(es:List Pr)(i:Nat)(x:Int):Fa f es i x<=es.length:=by
 unfold Fa;have:=A2n (p:=fun e:Pr=>decide (f e.1.toNat=x)) (l:=es.take i);simp at this;omega
theorem Zr{f:Nat->Int}{es:List Pr}{hs:List Int}{i:Nat}{h:Int}(hh:hs[i]? =some h)(x:Int):HI f es hs (i+1) x=HI f es hs i x+if f (Gk es h)=x then 1 else 0:=by
 unfold HI;rw[A1W,hh,A2r];by_cases h:f (Gk es h)=x<;>simp[h]
theorem Zt(f:Nat->Int)(es:List Pr)(hs:List Int)(i:Nat)(x:Int):HI f es hs i x<=hs.length:=by
 unfold HI;have:=A2n (p:=fun h:Int=>decide (f (Gk es h)=x)) (l:=hs.take i);simp at this;omega
/-! ### counting by labels -/
theorem GM{α:Type}{p:α->Bool}:∀{l:List α} {a:α},l.Nodup->a∈l->p a=true->(∀b,b∈l->p b=true->b=a)->l.countP p=1
 | [],a,_,h,_,_=>by cases h
 | x::r,a,hn,ha,hp,hu=>by
  rw[A1Z] at hn;rw[A1Q];by_cases hx:p x=true
  .have e:=hu x (by simp) hx;subst e;have:r.countP p=0:=by
    rw[A3v];intro b hb hpb;have:=hu b (by simp[hb]) hpb;subst this;exact hn.1 hb
   simp[hx,this]
  have har:a∈r:=by
   rcases A1H.1 ha with rfl|h
   .exact absurd hp hx
   exact h
  rw[GM hn.2 har hp fun b hb=>hu b (by simp[hb])];simp[hx]
theorem Hr{α:Type}{p:α->Bool}{l:List α}(h:∀a,a∈l->¬p a=true):l.countP p=0:=A3v.2 h
theorem QM{ks:List Int}{g:Int->Nat}(h:∀x,x∈ks->g x=1):(ks.map g).sum=ks.length:=by
 induction ks with
 | nil=>rfl
 | cons x r ih=>simp only[A1M,A2l,A2a];rw[h x (by simp),ih fun y hy=>h y (by simp[hy])];omega
theorem UJ{y:Int}:∀{ks:List Int},ks.Nodup->y∈ks->(ks.map fun x=>if y=x then 1 else 0).sum=1
 | [],_,h=>by cases h
 | x::r,hn,h=>by
  rw[A1Z] at hn;simp only[A1M,A2l];by_cases e:y=x
  .subst e;have:(r.map fun x=>if y=x then 1 else 0).sum=0:=by
    have:∀l:List Int,y∉l->(l.map fun x=>if y=x then 1 else 0).sum=0:=by
     intro l
     induction l with
     | nil=>intro _;rfl
     | cons a l ih=>intro hl;simp at hl;simp[hl.1,ih hl.2]
    exact this r hn.1
   rw[if_pos rfl,this]
  rw[if_neg e,UJ hn.2 (by rcases A1H.1 h with h|h;exact absurd h e;exact h)]
theorem A0F{ks:List Int}{g h:Int->Nat}:(ks.map fun x=>g x+h x).sum=(ks.map g).sum+(ks.map h).sum:=by
 induction ks with
 | nil=>rfl
 | cons x r ih=>simp only[A1M,A2l,ih];omega
theorem XJ{ks:List Int}:(ks.map fun _=>0).sum=0:=by
 induction ks with
 | nil=>rfl
 | cons x r ih=>simpa using ih
theorem EV{α:Type}{ks:List Int}(hn:ks.Nodup){g:α->Int}:∀{l:List α},(∀a,a∈l->g a∈ks)->(ks.map fun x=>l.countP fun a=>decide (g a=x)).sum=l.length
 | [],_=>XJ
 | a::r,h=>by
  have ih:=EV hn (l:=r) fun b hb=>h b (by simp[hb]);have e:(ks.map fun x=>(a::r).countP fun a=>decide (g a=x))=ks.map fun x=>(r.countP fun a=>decide (g a=x))+if g a=x then 1 else 0:=by
   apply A2I;intro x _;rw[A1Q];by_cases h:g a=x<;>simp[h]
  rw[e,A0F,ih,UJ hn (h a (by simp)),A2a]
/-! ### parts -/
noncomputable def Fh(n:Nat)(es:List Pr):Nat:=(List.range n).countP fun v=>decide (∀y,y<v->¬Dx es y v)
def NC(n:Nat)(es:List Pr):Nat:=(List.range n).countP fun v=>decide (Fr es v=0)
theorem FO{es:List Pr}{a b:Nat}(h:Dx es a b):a=b\/((∃e,e∈es/\(e.1=a\/e.2=a))/\∃e,e∈es/\(e.1=b\/e.2=b)):=by
 induction h with
 | refl a=>exact .inl rfl
 | edge u v h=>exact .inr ⟨⟨_,h,.inl rfl⟩,⟨_,h,.inr rfl⟩⟩
 | symm _ ih=>
  rcases ih with rfl|⟨h1,h2⟩
  .exact .inl J
  exact .inr ⟨h2,h1⟩
 | trans _ _ ih1 ih2=>
  rcases ih1 with rfl|⟨h1,h2⟩
  .exact ih2
  rcases ih2 with rfl|⟨h3,h4⟩
  .exact .inr ⟨h1,h2⟩
  exact .inr ⟨h1,h4⟩
theorem GN{N:Int}{es:List Pr}(hV:BX N es)(v:Nat):Fr es v≠0↔∃e,e∈es/\(e.1=v\/e.2=v):=by
 unfold Fr;constructor
 .intro h;obtain⟨x,hx⟩:∃x,x∈Bs es v:=by
   cases hl:Bs es v with
   | nil=>rw[hl] at h;simp at h
   | cons x r=>exact⟨x,by simp⟩
  obtain⟨h0,h1,h2⟩:=(Bb hV).1 hx;obtain⟨i,e,he,hc⟩:=Cq h0 h1;refine⟨e,A1h he,?_⟩;rcases hc with⟨_,h3,_⟩|⟨_,h3,_⟩
  .left;omega
  right;omega
 rintro⟨e,he,hc⟩;obtain⟨i,hi⟩:=A1j.1 he;have hm:∃h,h∈Bs es v:=by
  rcases hc with hc|hc
  .have:=Du hi (u:=v) (v:=e.2) hc rfl;exact⟨_,(Bb hV).2 ⟨this.lo,this.hi,this.fr⟩⟩
  have:=Fj hi (u:=v) (v:=e.1) rfl hc;exact⟨_,(Bb hV).2 ⟨this.lo,this.hi,this.fr⟩⟩
 obtain⟨h,hm⟩:=hm;have:=A3m hm;omega
def Lab(n:Nat)(es:List Pr)(f:Nat->Int):Prop:=∀a b,a<n->b<n->(f a=f b↔Dx es a b)
theorem lab_of{n k:Nat}{es:List Pr}{q:Nat->Nat}{f:Nat->Int}(hP:GR es (rt q))(hL:Qj (rt q) n k f):Lab n es f:=
 fun a b ha hb=>(hL.2.1 a b ha hb).trans (hP a b)
section
variable{n:Nat}{es:List Pr}{f:Nat->Int}
theorem GK(hV:BX n es){e:Pr}(he:e∈es):∃u v:Nat,e=((u:Int),(v:Int))/\u<v/\v<n:=by
 obtain⟨i,hi⟩:=A1j.1 he;have ho:=hV.ok i e hi;have h1:=ho.lo;have h2:=ho.lt;have h3:=ho.hi;exact⟨e.1.toNat,e.2.toNat,Prod.ext (by simp;omega) (by simp;omega),by omega,by omega⟩
theorem Sq{x:Int}(h:Fa f es es.length x=0){e:Pr}(he:e∈es):f e.1.toNat≠x:=by
 unfold Fa at h;rw[A1T,A3v] at h;simpa using h e he
theorem cnE_pos{x:Int}(h:Fa f es es.length x≠0):∃e,e∈es/\f e.1.toNat=x:=by
 unfold Fa at h;rw[A1T] at h;obtain⟨e,he,hp⟩:=List.countP_pos_iff.1 (Nat.pos_of_ne_zero h);exact⟨e,he,by simpa using hp⟩
theorem Uh{x:Int}(h:Fo f n x≠0):∃j,j<n/\f j=x:=by
 unfold Fo at h;obtain⟨j,hj,hp⟩:=List.countP_pos_iff.1 (Nat.pos_of_ne_zero h);exact⟨j,A1r.1 hj,by simpa using hp⟩
theorem ZZ(hV:BX n es)(hf:Lab n es f){x:Int}(h0:Fa f es es.length x=0){j:Nat}(hj:j<n)(hx:f j=x):Fr es j=0/\∀i,i<n->f i=x->i=j:=by
 have hno:∀i,i<n->f i=x->¬∃e,e∈es/\(e.1=i\/e.2=i):=by
  rintro i hi hfi ⟨e,he,hc⟩;obtain⟨u,v,rfl,huv,hvn⟩:=GK hV he;have h1:=Sq h0 he;simp only[A1g] at h1;rcases hc with hc|hc
  .have:u=i:=by simp at hc;omega
   subst this;exact h1 hfi
  have:v=i:=by simp at hc;omega
  subst this;exact h1 (((hf u v (by omega) hi).2 (.edge u v he)).trans hfi)
 refine⟨?_,fun i hi hfi=>?_⟩
 .apply Classical.byContradiction;intro hc;exact hno j hj hx ((GN hV j).1 hc)
 rcases FO ((hf i j hi hj).1 (hfi.trans hx.symm)) with e|⟨⟨e,he,hc⟩,_⟩
 .exact e
 exact absurd ⟨e,he,hc⟩ (hno i hi hfi)
theorem busy(hV:BX n es)(hf:Lab n es f){x:Int}(h0:Fa f es es.length x≠0){j:Nat}(hj:j<n)(hx:f j=x):Fr es j≠0:=by
 obtain⟨e,he,hfe⟩:=cnE_pos h0;obtain⟨u,v,rfl,huv,hvn⟩:=GK hV he;simp only[A1g] at hfe;rw[GN hV];rcases FO ((hf j u hj (by omega)).1 (hx.trans hfe.symm)) with e|⟨h1,_⟩
 .subst e;exact⟨_,he,.inl rfl⟩
 exact h1
theorem Yb(hV:BX n es)(hf:Lab n es f){x:Int}(hx:Fo f n x≠0):
  (Fa f es es.length x=0->Fo f n x=1/\((List.range n).filter fun v=>decide (Fr es v=0)).countP (fun v=>decide (f v=x))=1)/\
  (Fa f es es.length x≠0->((List.range n).filter fun v=>decide (Fr es v=0)).countP (fun v=>decide (f v=x))=0):=by
 constructor
 .intro h0;obtain⟨j,hj,hfj⟩:=Uh hx;obtain⟨h1,h2⟩:=ZZ hV hf h0 hj hfj;refine⟨?_,?_⟩
  .unfold Fo;exact GM A2f (A1r.2 hj) (by simpa using hfj) fun b hb hp=>h2 b (A1r.1 hb) (by simpa using hp)
  refine GM (List.Nodup.sublist A1X A2f) (A1D.2 ⟨A1r.2 hj,by simpa using h1⟩) (by simpa using hfj) fun b hb hp=>?_;exact h2 b (A1r.1 (A1D.1 hb).1) (by simpa using hp)
 intro h0;refine Hr fun v hv hp=>?_;obtain⟨h1,h2⟩:=A1D.1 hv;exact busy hV hf h0 (A1r.1 h1) (by simpa using hp) (by simpa using h2)
theorem Tx(hf:Lab n es f){x:Int}(hx:Fo f n x≠0):((List.range n).filter fun v=>decide (∀y,y<v->¬Dx es y v)).countP (fun v=>decide (f v=x))=1:=by
 -- the least vertex of the part
 have hl:∃j,j<n/\f j=x/\∀i,i<n->f i=x->j<=i:=by
  obtain⟨j,hj,hfj⟩:=Uh hx
  induction j using Nat.strongRecOn with
  | _ j ih=>
   by_cases hc:∃i,i<j/\f i=x
   .obtain⟨i,hi,hfi⟩:=hc;exact ih i hi (by omega) hfi
   exact⟨j,hj,hfj,fun i hi hfi=>by
    apply Classical.byContradiction;intro hlt;exact hc ⟨i,by omega,hfi⟩⟩
 obtain⟨j,hj,hfj,hmin⟩:=hl;refine GM (List.Nodup.sublist A1X A2f) (A1D.2 ⟨A1r.2 hj,?_⟩) (by simpa using hfj) fun b hb hp=>?_
 .simp only[decide_eq_true_eq];intro y hy hc;have:=hmin y (by omega) (((hf y j (by omega) hj).2 hc).trans hfj);omega
 obtain⟨h1,h2⟩:=A1D.1 hb;have h1:=A1r.1 h1;simp only[decide_eq_true_eq] at h2 hp;have h3:=hmin b h1 hp;rcases Nat.lt_or_eq_of_le h3 with h4|h4
 .exact absurd ((hf j b hj h1).1 (hfj.trans hp.symm)) (h2 j h4)
 exact h4.symm
end
/-! ### the sum -/
def T4(a b c:Nat):Int:=if b≠0 then 2-a+b-c else 0
def R2(a b c:Int->Nat)(ks:List Int):Int:=(ks.map fun x=>T4 (a x) (b x) (c x)).sum
theorem T5{n:Nat}{es:List Pr}{f:Nat->Int}{hs:List Int}{ks:List Int}(hV:BX n es)(hf:Lab n es f)(hn:ks.Nodup)(hk:∀x,x∈ks↔Fo f n x≠0)
 (hh:∀h,h∈hs->Gk es h<n/\Fa f es es.length (f (Gk es h))≠0):
  R2 (Fo f n) (Fa f es es.length) (HI f es hs hs.length) ks=2*(Fh n es:Int)-NC n es-n+es.length-hs.length:=by
 have hin:∀j,j<n->f j∈ks:=fun j hj=>(hk _).2 (J3 hj);have s1:(ks.map (Fo f n)).sum=n:=by
  have:=EV hn (g:=f) (l:=List.range n) fun a ha=>hin a (A1r.1 ha);rw[A2m] at this;exact this
 have s2:(ks.map (Fa f es es.length)).sum=es.length:=by
  have:=EV hn (g:=fun e:Pr=>f e.1.toNat) (l:=es) fun e he=>by
   obtain⟨u,v,rfl,huv,hvn⟩:=GK hV he;exact hin _ (by simp;omega)
  unfold Fa;simpa using this
 have s3:(ks.map (HI f es hs hs.length)).sum=hs.length:=by
  have:=EV hn (g:=fun h:Int=>f (Gk es h)) (l:=hs) fun h hm=>hin _ (hh h hm).1;unfold HI;simpa using this
 have s4:(ks.map fun x=>((List.range n).filter fun v=>decide (Fr es v=0)).countP fun v=>decide (f v=x)).sum=NC n es:=by
  rw[EV hn (g:=f) fun a ha=>hin a (A1r.1 (A1D.1 ha).1)];unfold NC;rw[A2q]
 have s5:ks.length=Fh n es:=by
  have h1:=EV hn (g:=f) (l:=(List.range n).filter fun v=>decide (∀y,y<v->¬Dx es y v)) fun a ha=>hin a (A1r.1 (A1D.1 ha).1);rw[QM fun x hx=>Tx hf ((hk x).1 hx)] at h1;rw[h1];unfold Fh;rw[A2q]
 have key:∀l:List Int,(∀x,x∈l->Fo f n x≠0)->R2 (Fo f n) (Fa f es es.length) (HI f es hs hs.length) l=
   2*(l.length:Int)-((l.map fun x=>((List.range n).filter fun v=>decide (Fr es v=0)).countP fun v=>decide (f v=x)).sum:Nat)-((l.map (Fo f n)).sum:Nat)+((l.map (Fa f es es.length)).sum:Nat)-((l.map (HI f es hs hs.length)).sum:Nat):=by
  intro l
  induction l with
  | nil=>intro _;rfl
  | cons x r ih=>
   intro hx;have h1:=ih fun y hy=>hx y (by simp[hy]);obtain⟨p1,p2⟩:=Yb hV hf (hx x (by simp));unfold R2 at h1 ⊢;simp only[A1M,A2l,A2a];rw[h1];unfold T4;by_cases h0:Fa f es es.length x=0
   .obtain⟨q1,q2⟩:=p1 h0;have q3:HI f es hs hs.length x=0:=by
     unfold HI;rw[A1T];refine Hr fun h hm hp=>?_;have:=(hh h hm).2;rw[show f (Gk es h)=x by simpa using hp] at this;exact this h0
    rw[q1,q2,q3,h0,if_neg (by simp)];omega
   rw[p2 h0,if_pos h0];omega
 rw[key ks fun x hx=>(hk x).1 hx,s1,s2,s3,s4,s5]
end
section
open Classical
noncomputable def D6(n:Nat)(fn:Nat->Int):List Int:=((List.range n).filter fun x=>decide (Cc (CM fn) x)).map fun(x:Nat)=>(x:Int)
def Qq(fn:Nat->Int)(h:Nat):Nat:=(fn h).toNat
section
variable{n:Nat}{es:List Pr}{rs:List (List Int)}{fn:Nat->Int}
theorem GH(hok:CO n es rs)(hnx:Dj rs rs.length fn){v:Nat}{l:List Int}{i h:Nat}(hl:rs[v]? =some l)(hi:l[i]? =some (h:Int)):
  l[(i+1)%l.length]? =some (fn h)/\0<=fn h/\fn h<es.length*2/\Aj es (fn h)=v:=by
 have h1:=hnx v l i h (A1e.1 hl).1 hl hi;rw[A1g] at h1;obtain⟨h2,h3,h4⟩:=(hok.2.2 v l hl).1 _ (A1h h1);exact⟨h1,h2,h3,h4⟩
theorem Lt(hok:CO n es rs)(hnx:Dj rs rs.length fn){v:Nat}{l:List Int}{i h:Nat}(hl:rs[v]? =some l)(hi:l[i]? =some (h:Int)):
  ∀k,l[(i+k)%l.length]? =some ((De (Qq fn) k h:Nat):Int)
 | 0=>by rw[A2x,A2y (A1e.1 hi).1];exact hi
 | k+1=>by
  have ih:=Lt hok hnx hl hi k;obtain⟨h1,h2,_⟩:=GH hok hnx hl ih;rw[Nat.mod_add_mod] at h1;rw[show i+(k+1)=i+k+1 by omega,h1];show some _=some (((fn (De (Qq fn) k h)).toNat:Nat):Int)
  congr 1;omega
theorem Ju(h:Nat):twn (twn h)=h:=by unfold twn;split<;>split<;>omega
theorem Yx(hok:CO n es rs)(hnx:Dj rs rs.length fn):Perm (es.length*2) (Qq fn):=by
 obtain⟨hp,h0⟩:=Iu hok hnx;have e:∀h,Qq fn h=CM fn (twn h):=fun h=>by unfold CM Qq;rw[Ju]
 have ht:∀h,h<es.length*2->twn h<es.length*2:=fun h hh=>by unfold twn;split<;>omega
 refine⟨fun i hi=>by rw[e];exact hp.lt _ (ht i hi),fun i j hi hj he=>?_⟩;rw[e,e] at he;have:=hp.inj _ _ (ht i hi) (ht j hj) he;rw[<-Ju i,this,Ju]
theorem Tn(hok:CO n es rs){h v:Nat}{l:List Int}(hh:h<es.length*2)(hv:Aj es h=v)(hl:rs[v]? =some l):∃i:Nat,l[i]? =some (h:Int):=by
 obtain⟨v',l',i,hl',hi,hv'⟩:=G6 hok hh;have:v'=v:=by omega
 subst this;rw[hl] at hl';cases hl';exact⟨i,hi⟩
theorem Oq(hok:CO n es rs)(hnx:Dj rs rs.length fn){v:Nat}{l:List Int}(hl:rs[v]? =some l){h k:Nat}(hh:h<es.length*2)(hk:k<es.length*2)(h1:Aj es h=v)(h2:Aj es k=v)
 (hL:Cc (Qq fn) h):h<=k:=by
 obtain⟨i,hi⟩:=Tn hok hh h1 hl;obtain⟨j,hj⟩:=Tn hok hk h2 hl;have hil:=(A1e.1 hi).1;have hjl:=(A1e.1 hj).1;have h3:=Lt hok hnx hl hi (j+l.length-i);rw[show i+(j+l.length-i)=j+l.length by omega,Nat.add_mod_right,A2y hjl,hj] at h3;have h4:=hL (j+l.length-i);have h5:=Option.some.inj h3;omega
theorem lead_ex(hok:CO n es rs)(hnx:Dj rs rs.length fn){v:Nat}{l:List Int}(hl:rs[v]? =some l)(hne:l≠[]):∃h:Nat,h<es.length*2/\Aj es h=v/\Cc (Qq fn) h:=by
 have hrow:=(hok.2.2 v l hl).1;have hm:∃h:Nat,(h:Int)∈l/\∀y,y∈l->(h:Int)<=y:=by
  obtain⟨x,hx⟩:∃x,x∈l:=A2i _ hne;obtain⟨k,hk⟩:=A1n (hrow x hx).1;subst hk
  induction k using Nat.strongRecOn with
  | _ k ih=>
   by_cases hc:∃y,y∈l/\y<k
   .obtain⟨y,hy,hlt⟩:=hc;obtain⟨q,rfl⟩:=A1n (hrow y hy).1;exact ih q (by omega) hy
   exact⟨k,hx,fun y hy=>by
    apply Classical.byContradiction;intro h;exact hc ⟨y,hy,by omega⟩⟩
 obtain⟨h,hh,hmin⟩:=hm;obtain⟨h0,h1,h2⟩:=hrow _ hh;refine⟨h,by omega,h2,fun k=>?_⟩;obtain⟨i,hi⟩:=A1j.1 hh;have:=hmin _ (A1h (Lt hok hnx hl hi k));omega
theorem YV(hV:BX n es){h:Nat}(hh:h<es.length*2):∃v:Nat,Aj es h=v/\v<n:=by
 obtain⟨i,e,he,hc⟩:=Cq (es:=es) (h:=(h:Int)) (by omega) (by omega);have ho:=hV.ok i e he;have h1:=ho.lo;have h2:=ho.lt;have h3:=ho.hi;rcases hc with⟨_,h4,_⟩|⟨_,h4,_⟩
 .exact⟨e.1.toNat,by omega,by omega⟩
 exact⟨e.2.toNat,by omega,by omega⟩
theorem JP{f:Nat->Int}(hV:BX n es)(hf:Lab n es f){h:Nat}{i:Nat}{e:Pr}(he:es[i]? =some e)(hh:h / 2=i):f (Aj es h).toNat=f e.1.toNat:=by
 have hl:=(A1e.1 he).1;obtain⟨i',e',he',hc⟩:=Cq (es:=es) (h:=(h:Int)) (by omega) (by omega);have:i'=i:=by rcases hc with⟨h1,_⟩|⟨h1,_⟩<;>omega
 subst this;rw[he] at he';cases he';obtain⟨u,v,rfl,huv,hvn⟩:=GK hV (A1h he);rcases hc with⟨_,h4,_⟩|⟨_,h4,_⟩
 .rw[h4]
 rw[h4];simp only[A1g];exact(hf v u hvn (by omega)).2 (.symm (.edge u v (A1h he)))
theorem J2{α:Type}{p:α->Bool}{q:Nat->Bool}:∀{l:List α} {k:Nat},(∀i e,l[i]? =some e->q (k+i)=p e)->l.countP p=(List.range' k l.length).countP q
 | [],k,_=>rfl
 | a::r,k,h=>by
  rw[A2a,A3O,A1Q,A1Q,J2 (l:=r) (k:=k+1) (q:=q) fun i e he=>by
   rw[show k+1+i=k+(i+1) by omega];exact h (i+1) e (by simpa using he)];have:=h 0 a rfl;rw[A2x] at this;rw[<-this]
theorem RW{h:Nat}{e:Pr}(he:es[h / 2]? =some e):Gk es (h:Int)=e.1.toNat:=by
 unfold Gk;rw[show((h:Int) / 2).toNat=h / 2 by omega,he];rfl
theorem Wd{f:Nat->Int}(hok:CO n es rs)(hnx:Dj rs rs.length fn)(hf:Lab n es f){x:Int}(h0:Fa f es es.length x≠0):
  (Fo f n x+Fa f es es.length x+HI f es (D6 (es.length*2) fn) (D6 (es.length*2) fn).length x)%2=0:=by
 have hV:=hok.1;have hs:=Yx hok hnx;obtain⟨c,hc⟩:∃c:Nat->Bool,c=fun(i:Nat)=>decide (f (Aj es (i:Int)).toNat=x):=⟨_,rfl⟩;have hm2:es.length*2=2*es.length:=by omega
 have h1:∀i,i<2*es.length->c (Qq fn i)=c i:=by
  intro i hi;obtain⟨v,l,j,hl,hj,hv⟩:=G6 hok (h:=i) (by omega);obtain⟨_,g1,g2,g3⟩:=GH hok hnx hl hj;have:((Qq fn i:Nat):Int)=fn i:=by unfold Qq;omega
  rw[hc];simp only[this,g3,hv]
 have h2:∀i,i<2*es.length->c (twn i)=c i:=by
  intro i hi;obtain⟨e,he⟩:∃e,es[i / 2]? =some e:=⟨_,A1d (by omega)⟩;rw[hc];simp only;rw[JP hV hf he rfl,JP hV hf (h:=twn i) he (by unfold twn;split<;>omega)]
 rw[hm2] at hs;have hpar:=Sc hs h1 h2;have e1:(List.range (2*es.length)).countP (fun i=>c i&&decide (Cc (fun h=>Qq fn (twn h)) i))=HI f es (D6 (es.length*2) fn) (D6 (es.length*2) fn).length x:=by
  unfold HI D6;rw[A1T,List.countP_map,List.countP_filter,hm2];apply List.countP_congr;intro i hi;have hi:=A1r.1 hi;obtain⟨e,he⟩:∃e,es[i / 2]? =some e:=⟨_,A1d (by omega)⟩;have e2:(fun h=>Qq fn (twn h))=CM fn:=rfl;simp only[Function.comp_def];rw[e2,hc];simp only;rw[JP hV hf he rfl,RW he]
 have e2:(List.range es.length).countP (fun e=>c (2*e))=Fa f es es.length x:=by
  unfold Fa;rw[A1T,A3N];refine(J2 (k:=0) (q:=fun e=>c (2*e)) ?_).symm;intro i e he;rw[hc];simp only[A2d];rw[JP hV hf (h:=2*i) he (by omega)]
 have e3:(List.range (2*es.length)).countP (fun i=>c i&&decide (Cc (Qq fn) i))=Fo f n x:=by
  have hk:(((List.range n).filter fun v=>decide (f v=x)).map fun(v:Nat)=>(v:Int)).Nodup:=by
   unfold List.Nodup;rw[A2b];exact(List.Nodup.sublist A1X A2f).imp fun h=>by omega
  have hsum:=EV hk (g:=fun h:Nat=>Aj es h) (l:=(List.range (2*es.length)).filter fun i=>c i&&decide (Cc (Qq fn) i)) fun h hh=>by
   obtain⟨g1,g2⟩:=A1D.1 hh;have g1:=A1r.1 g1;obtain⟨v,hv,hvn⟩:=YV hV (h:=h) (by omega);rw[hc] at g2;simp only[A1P,decide_eq_true_eq,hv,A1g] at g2;exact A1G.2 ⟨v,A1D.2 ⟨A1r.2 hvn,by simpa using g2.1⟩,hv.symm⟩
  rw[QM] at hsum
  .rw[A2q,<-hsum,A1S,<-A2q];rfl
  intro y hy;obtain⟨v,hv,rfl⟩:=A1G.1 hy;obtain⟨hv1,hv2⟩:=A1D.1 hv;have hv1:=A1r.1 hv1;have hv2:f v=x:=by simpa using hv2
  have hlen:=hok.2.1;obtain⟨l,hl⟩:∃l,rs[v]? =some l:=⟨_,A1d (by omega)⟩;have hne:l≠[]:=by
   intro e;have h3:=(hok.2.2 v l hl).2.2;rw[e] at h3;exact busy hV hf h0 hv1 hv2 (by simpa using h3.symm)
  obtain⟨h,g1,g2,g3⟩:=lead_ex hok hnx hl hne;refine GM (List.Nodup.sublist A1X A2f) (a:=h) (A1D.2 ⟨A1r.2 (by omega),?_⟩) (by simpa using g2) fun b hb hp=>?_
  .rw[hc];simp[g2,hv2,g3]
  obtain⟨b1,b2⟩:=A1D.1 hb;have b1:=A1r.1 b1;simp only[A1P,decide_eq_true_eq] at b2 hp;have q1:=Oq hok hnx hl g1 (by omega) g2 hp g3;have q2:=Oq hok hnx hl (h:=b) (k:=h) (by omega) g1 hp g2 b2.2;omega
 rw[e1,e2,e3] at hpar;omega
end
end
section
open Classical
structure GeI where
 i:Nat
 m:List (Int×Value)
def ints0(i k:Nat):List Int:=(List.range k).map fun(x:Nat)=>(x:Int)
structure GeK where
 left:List (Int×Value)
 last:Option (Int×Value)
 S:Int
noncomputable def EH(es:List Pr)(fn:Nat->Int):Nat:=(D6 (es.length*2) fn).length
noncomputable def DJ(n:Nat)(es:List Pr)(fn:Nat->Int):Int:=2*(Fh n es:Int)-NC n es-n+es.length-EH es fn
theorem MO{a b c:Int->Nat}:∀{ks:List Int} {j:Nat} {x:Int},ks[j]? =some x->R2 a b c ks=T4 (a x) (b x) (c x)+R2 a b c (ks.eraseIdx j)
 | [],j,x,h=>by simp at h
 | y::r,0,x,h=>by simp at h;subst h;rfl
 | y::r,j+1,x,h=>by
  have:=MO (a:=a) (b:=b) (c:=c) (ks:=r) (j:=j) (x:=x) (by simpa using h);unfold R2 at this ⊢;rw[A2Q];simp only[A1M,A2l];omega
theorem SO{n:Nat}{es:List Pr}{rs:List (List Int)}{va v:Value}{w:World}(hg:DX w va es)(hl:IM w v rs)(hok:CO n es rs):
  Calls A1c 79 #[.agg #[Iv n,va],v] w (Ret w [] fun r M=>M=[]/\∃fn S,Dj rs rs.length fn/\r= .tuple #[Iv S,Iv 0]/\2*S=DJ n es fn):=by
 obtain⟨A,cap,ev,hr,hlc,hcm,hle⟩:=id hg;subst ev;have hV:=hok.1;have hfew:=hV.few;have hN1:n<=1048576:=by have:=hV.hi;omega
 refine cO Tryz.func79 Tryz.ntmps79<|Zs ?_;refine Zw (HE (cs:=#[Iv n,.slice A es.length cap]) J J J) fun g2=>?_;refine Zz [2]<|Zx<|Zs ?_;refine CR [_,_] ?_;refine Zm ?_;refine Bk J J (AH en112 J J J (fun w' hw=>Xb (hg.keep0 hw) (hl.keep0 hw) (fun f h1 h2=>Iu h1 h2))) ?_;intro v28 L28 hC28;obtain⟨_,vf,fs,fn,rfl,hnx,hD,rfl⟩:=hC28.resolve_right (fun h=>h.1 hok);let ca:=AC g2 24 #[Iv n,.slice A es.length cap];refine CN.own (M:=Bf vf 37 1 (Ba fs)::ca::AT 3 fs) (fun w hw=>hw.perm (List.Perm.cons _ (A1v (l₁:=[_]) (l₂:=AT 3 fs)))) ?_;refine Zz [5]<|Zx<|Ai<|Zs ?_;refine Zz [2]<|Zx ?_;refine Zd ?_ ?_<;>intro c2
 .refine Zs<|Zz [3]<|Zx<|At<|Ad ?_;refine Lm 4 5 ?_;refine Bq (.inl J) J J J ?_;simp at c2
 refine Ao<|Aa<|Zs ?_;refine CR [_,_] ?_;refine Bk J J (AH en113 J J J (fun w' hw=>A0a (hg.keep0 hw) hV)) ?_;rintro _ _ ⟨gl,k,f,q,rfl,hq,hPa,hLa,rfl⟩;simp only[zs];refine Zz [7]<|Zx<|Zs ?_;refine Bk J J (GI (enc:=encI) J) ?_;rintro _ _ ⟨gm,rfl,rfl⟩;simp only[zs];refine Za<|Zx<|Ai<|Zs ?_;refine Zz [3]<|Zx<|As ?_;refine AS (ι:=GeI) (fun j=>j.i<=n/\Tal j.m (Fo f j.i) (fun _=>0) (fun _=>0))
  (fun j=>[(2,Pv g2),(6,vf),(8,Sv gl n),(11,.map (some gm)),(41,Sv gl n),(42,Iv n),(43,Iv j.i)])
  (fun j=>Ej encI gm j.m::AC gl 3 (AA (BA n f)).toArray::Bf vf 37 1 (Ba fs)::ca::AT 3 fs) (fun j=>n-j.i) ⟨0,[]⟩
  ⟨A1E _,by simp,fun x=>by simp[Fo]⟩ ⟨rfl,rfl,rfl,rfl,rfl,rfl,rfl,trivial⟩ (Bg (Bg (Ay _))) ?_;rintro⟨i,m⟩ ⟨hi,hm⟩;dsimp only at hi hm ⊢;refine Zs<|Zc<|Zx<|Ai ?_;refine Zd ?_ ?_<;>intro c7
 .have hlt:i<n:=by simpa using c7
  have hb1:=Ug f i (f i);refine Ao<|Aa<|Ai<|As<|Zs<|Zz [1] ?_;refine Zu (AG J J CA (AK (BB hlt))) ?_;refine Za<|Zx<|Zs ?_;refine Zz [2] ?_;refine Zu (Fd (v:=tl (Fo f i (f i)) 0 0) (k:=f i) 0 J H8 J J J Tryz.underlying227 LS (O4 hm (f i) (fun _=>⟨J,J⟩))) ?_;refine ZA LS fun g14=>?_;refine Zq #[Iv (Fo f i (f i)),Iv 0,Iv 0]<|Zx<|Zs ?_;refine Zz [1,2] ?_;refine Jj #[_,_,_]<|Zx<|Ak ?_;refine Zz [2] ?_;refine Zu (A4 (vs:=[_,_,_]) J J Z1 XH J (AW (vs:=[Iv ((Fo f i (f i):Nat)+1),Iv 0,Iv 0]) J)) ?_;refine Zy (Dm (k:=f i) 1 J H8 J J J J Tryz.underlying227 J) ?_;simp only[List.set_cons_zero,List.set_cons_succ];refine Az<|An<|Aa<|Ak<|Zz [2]<|Az ?_;refine Dl.own (fun w hw=>hw.sub (A1k ..)) ?_;refine AB ⟨i+1,EA (f i) (tl (Fo f (i+1) (f i)) 0 0) m⟩ (by dsimp only;omega) ⟨by dsimp only;omega,?_⟩ ⟨J,J,J,J,J,J,J,trivial⟩ (.cons' 0 J (by dsimp only;rw[MY,if_pos rfl];rfl) (Ay _));refine O3 (a':=Fo f (i+1)) (b':=fun _=>0) (c':=fun _=>0) hm (f i) (by rw[MY,if_pos rfl];omega) fun y hy=>⟨?_,J,J⟩;rw[MY,if_neg (Ne.symm hy)];rfl
 refine AN<|Ag<|Ag<|Aq<|Aa<|Ai<|Zs<|Zz [1,2]<|Zx<|As ?_;have hin:i=n:=by simp at c7;omega
 subst hin;let cb:=AC gl 3 (AA (BA i f)).toArray;let cc:=AC g2 24 #[Iv i,.slice A es.length cap];refine AS (ι:=GeI) (fun j=>j.i<=es.length/\Tal j.m (Fo f i) (Fa f es j.i) (fun _=>0))
  (fun j=>[(2,Pv g2),(6,vf),(8,Sv gl i),(11,.map (some gm)),(59,.slice A es.length cap),(60,Iv es.length),(61,Iv j.i)])
  (fun j=>Ej encI gm j.m::cb::Bf vf 37 1 (Ba fs)::cc::AT 3 fs) (fun j=>es.length-j.i) ⟨0,m⟩
  ⟨A1E _,hm.1,fun x=>by rw[hm.2 x];simp[Fa]⟩ ⟨rfl,rfl,rfl,rfl,rfl,rfl,rfl,trivial⟩ (Ay _) ?_;rintro⟨i2,m2⟩ ⟨hi2,hm2⟩;dsimp only at hi2 hm2 ⊢;refine Zs<|Zc<|Zx<|Ai ?_;refine Zd ?_ ?_<;>intro c14
 .have hlt:i2<es.length:=by simpa using c14
  obtain⟨e,he⟩:∃e,es[i2]? =some e:=⟨_,A1d hlt⟩;obtain⟨ad,rfl,hU,hVe⟩:=hr.pair he;have ho:=hV.ok i2 e he;obtain⟨u,hu⟩:=A1n ho.lo;obtain⟨u2,hu2⟩:=A1n (show 0<=e.2 by have:=ho.lo;have:=ho.lt;omega);obtain rfl:e=((u:Int),(u2:Int)):=Prod.ext hu hu2;clear hu hu2;have hun:u<i:=by have h1:=ho.lt;have h2:=ho.hi;simp at h1 h2;omega
  replace hU:w.cell? (ad.add (i2*2))=some (Iv (u:Int)):=hU;replace hVe:w.cell? (ad.add (i2*2+1))=some (Iv (u2:Int)):=hVe;have hb2:=Zv f es i2 (f u);have hb3:=Ug f i (f u);refine Ao<|Aa<|Ai<|As<|Zs ?_;refine Zo (Bz J J J A1y CF (by omega) (by omega) (by first|exact AX _ _|exact Cm _ _ _|rfl)) ?_;refine Zu (A4 (vs:=[_,_]) J J Hw CF J (Fm hU hVe (by simp))) ?_;refine ZA Fs fun g16=>?_;refine Zq #[_,_]<|Zx<|Zs ?_;refine Zz [3,1] ?_;refine Zu (AG J J CA (AK (BB hun))) ?_;refine Zu (Fd (v:=tl (Fo f i (f u)) (Fa f es i2 (f u)) 0) (k:=f u) 1 J H8 J J J Tryz.underlying227 LS (O4 hm2 (f u) (fun e=>absurd e (J3 hun)))) ?_;refine ZA LS fun g17=>?_;refine Zq #[Iv (Fo f i (f u)),Iv (Fa f es i2 (f u)),Iv 0]<|Zx<|Zs ?_;refine Zz [1,2] ?_;refine Jj #[_,_,_]<|Zx ?_;refine Fv 31101000 8 ?_;refine Yz [3,0] ?_;refine Yi A1x Bw ?_;refine Yh (AK (BB hun)) ?_;refine Bp J J J J (A4 (vs:=[_,_,_]) J J Z1 XH J (AW (vs:=[Iv (Fo f i (f u)),Iv ((Fa f es i2 (f u):Nat)+1),Iv 0]) J)) ?_;refine AO J J J J (Dm (k:=f u) 2 J H8 J J J J Tryz.underlying227 J) PN ?_;refine AF J ?_;simp only[zq,zr];refine An<|Aa<|Ak<|Zz [2]<|Az ?_;have e1:Fa f es (i2+1) (f u)=Fa f es i2 (f u)+1:=by rw[Sr he];simp
  refine Dl.own (fun w hw=>(hw.sub (A1k ..)).sub (A1k ..)) ?_;refine AB ⟨i2+1,EA (f u) (tl (Fo f i (f u)) (Fa f es (i2+1) (f u)) 0) m2⟩ (by dsimp only;omega) ⟨by dsimp only;omega,?_⟩ ⟨J,J,J,J,J,J,J,trivial⟩ (.cons' 0 J (by dsimp only;rw[e1];rfl) (Ay _));refine O3 (a':=Fo f i) (b':=Fa f es (i2+1)) (c':=fun _=>0) hm2 (f u) (J3 hun) fun y hy=>⟨J,?_,J⟩;have:¬f u=y:=fun e=>hy e.symm;rw[Sr he];simp[this]
 refine AN<|Ag<|Ag<|Aq<|Aa<|Ai<|Ai ?_;have hi2e:i2=es.length:=by simp at c14;omega
 subst hi2e;refine LR (i:=2) J ?_;rintro Af cf' rfl hAf;rw[rowsV_length];obtain⟨hs,hhs⟩:∃hs:List Int,hs=fs.map fun p=>p.2.headD 0:=⟨_,rfl⟩;have hhead:∀(j:Nat) (p:Value×List Int),fs[j]? =some p->∃x:Nat,x<es.length*2/\p.2[0]? =some (x:Int)/\hs[j]? =some (x:Int):=by
  intro j p hp;have h1:(fs.map fun p=>p.2.head?)[j]? =some p.2.head?:=by rw[A1U,hp];rfl
  rw[hD.heads,A1U,A2o] at h1;obtain⟨x,hx,hxe⟩:=h1;have hxm:=A1h hx;have hxl:x<es.length*2:=A1r.1 (A1D.1 hxm).1;refine⟨x,hxl,by rw[<-A3J,<-hxe],?_⟩;rw[hhs,A1U,hp];simp[List.headD_eq_head?_getD,<-hxe]
 have hfsl:fs.length<=8388608:=by
  have h1:=congrArg List.length hD.heads;simp only[A1S] at h1;have h2:=A2J (fun x=>decide (Cc (CM fn) x)) (List.range (es.length*2));simp at h2;omega
 refine Ak<|Zz [3]<|Zx<|As ?_;refine AS (ι:=GeI) (fun j=>j.i<=fs.length/\Tal j.m (Fo f i) (Fa f es es.length) (HI f es hs j.i))
  (fun j=>[(2,Pv g2),(8,Sv gl i),(11,.map (some gm)),(84,.slice Af fs.length cf'),(85,Iv fs.length),(86,Iv j.i)])
  (fun j=>Ej encI gm j.m::cb::Bf (.slice Af fs.length cf') 37 1 (Ba fs)::cc::AT 3 fs) (fun j=>fs.length-j.i) ⟨0,m2⟩
  ⟨A1E _,hm2.1,fun x=>by rw[hm2.2 x];simp[HI]⟩ ⟨rfl,rfl,rfl,rfl,rfl,rfl,trivial⟩ (Ay _) ?_;rintro⟨i3,m3⟩ ⟨hi3,hm3⟩;dsimp only at hi3 hm3 ⊢;refine Zs<|Zc<|Zx<|Ai ?_;refine Zd ?_ ?_<;>intro c21
 .have hlt3:i3<fs.length:=by simpa using c21
  obtain⟨p,hp⟩:∃p,fs[i3]? =some p:=⟨_,A1d hlt3⟩;obtain⟨adf,rfl⟩:=hAf (fun e=>by have:=congrArg List.length e;simp at this;rw[this] at hlt3;simp at hlt3);refine Ao<|Aa<|Ai<|As<|Zs<|Zz [1] ?_;refine Zu (AG J J D8 (RZ (i:=2) (q:=p.1) J (by simp[Ba,hp]))) ?_;refine Za<|Zx<|Ai ?_;obtain⟨x,hx,hx0,hxh⟩:=hhead i3 p hp;have hpl:=hD.short p (A1h hp);refine DC.slcs (v:=p.1) (i:=i3+4) (xs:=p.2) (t:=3) (by simp[AT,hp]) (by omega) ?_;rintro A3 c3 hp1 hA3;obtain⟨ad3,rfl⟩:=hA3 (fun e=>by rw[e] at hx0;simp at hx0);have hp2:0<p.2.length:=(A1e.1 hx0).1;rw[hp1];obtain⟨e,he⟩:∃e,es[x / 2]? =some e:=⟨_,A1d (by omega)⟩;obtain⟨ad,rfl,hU,hVe⟩:=hr.pair he;have ho:=hV.ok (x / 2) e he;obtain⟨u,hu⟩:=A1n ho.lo;rw[hu] at hU;have hun:u<i:=by have h1:=ho.lt;have h2:=ho.hi;omega
  have hxd:((x:Int) / 2).toNat=x / 2:=by omega
  refine Fv 101000100100 13 ?_;refine Yz [2,1] ?_;refine Yj (ad3.add 0) ?_;refine Yg ?_ (hh:=by exact(Cv (t:=3) (i:=i3+4) (l:=p.2.length) (c:=c3) (by rw[<-hp1];simp[AT,hp]) hx0 (by omega)));refine Yo J (Gi J J J (by omega) (by omega)) ?_;refine Yo J (Bz (ad':=ad.add (x / 2*2)) J J J A1y CF (by omega) (by omega) (by rw[hxd])) ?_;refine Yo J (Ps (ad':=ad.add (x / 2*2)) J J T8 (by simp[Addr.add])) ?_;refine Yh (A7 hU) ?_;refine Yi A1x Bw ?_;refine Yh (AK (BB hun)) ?_;refine Yz [1] ?_;refine AF J ?_;simp only[zq,zr];refine Aa<|Ai ?_;have hb4:=Zt f es hs i3 (f u);have hhl:hs.length=fs.length:=by rw[hhs];simp
  have hFs:∀y,HI f es hs (i3+1) y=HI f es hs i3 y+if f u=y then 1 else 0:=fun y=>by
   have h1:Gk es x=u:=by unfold Gk;rw[hxd,he];simp[hu]
   rw[Zr hxh,h1]
  refine Ak<|Zz [2] ?_;refine Zu (Fd (v:=tl (Fo f i (f u)) (Fa f es es.length (f u)) (HI f es hs i3 (f u))) (k:=f u) 0 J H8 J J J Tryz.underlying227 LS (O4 hm3 (f u) (fun e=>absurd e (J3 hun)))) ?_;refine ZA LS fun g21=>?_;refine Zq #[Iv (Fo f i (f u)),Iv (Fa f es es.length (f u)),Iv (HI f es hs i3 (f u))]<|Zx<|Zs ?_;refine Zz [1,2] ?_;refine Jj #[_,_,_]<|Zx<|Ak ?_;refine Zz [2] ?_;refine Zu (A4 (vs:=[_,_,_]) J J Z1 XH J (AW (vs:=[Iv (Fo f i (f u)),Iv (Fa f es es.length (f u)),Iv ((HI f es hs i3 (f u):Nat)+1)]) J)) ?_;refine Zy (Dm (k:=f u) 1 J H8 J J J J Tryz.underlying227 J) ?_;simp only[List.set_cons_zero,List.set_cons_succ];refine Az<|An<|Aa<|Ak<|Zz [2]<|Az ?_;have e1:HI f es hs (i3+1) (f u)=HI f es hs i3 (f u)+1:=by rw[hFs];simp
  refine Dl.own (fun w hw=>hw.sub (A1k ..)) ?_;refine AB ⟨i3+1,EA (f u) (tl (Fo f i (f u)) (Fa f es es.length (f u)) (HI f es hs (i3+1) (f u))) m3⟩ (by dsimp only;omega) ⟨by dsimp only;omega,?_⟩ ⟨J,J,J,J,J,J,trivial⟩ (.cons' 0 J (by dsimp only;rw[e1];rfl) (Ay _));refine O3 (a':=Fo f i) (b':=Fa f es es.length) (c':=HI f es hs (i3+1)) hm3 (f u) (J3 hun) fun y hy=>⟨J,J,?_⟩;have:¬f u=y:=fun e=>hy e.symm;rw[hFs];simp[this]
 refine AN<|Ag<|Ag<|Aq<|Aa<|Ai ?_;have hi3e:i3=fs.length:=by simp at c21;omega
 subst hi3e;have hhl:hs.length=fs.length:=by rw[hhs];simp
 have hheads:hs=D6 (es.length*2) fn:=by
  rw[hhs];unfold D6;have h1:=hD.heads;have h2:fs.map (fun p=>p.2.headD 0)=(fs.map fun p=>p.2.head?).map fun o=>o.getD 0:=by rw[A3H];apply A2I;intro p _;simp[List.headD_eq_head?_getD]
  rw[h2,h1,A3H]
  rfl
 rw[<-hhl] at hm3;have hL:=lab_of hPa hLa;have hhin:∀h,h∈hs->Gk es h<i/\Fa f es es.length (f (Gk es h))≠0:=by
  intro h hh;rw[hheads] at hh;obtain⟨y,hy,rfl⟩:=A1G.1 hh;have hy2:=A1r.1 (A1D.1 hy).1;obtain⟨e,he⟩:∃e,es[y / 2]? =some e:=⟨_,A1d (by omega)⟩;have hem:=A1h he;obtain⟨u,u2,rfl,h1,h2⟩:=GK hV hem;rw[RW he];refine⟨by simp;omega,fun h0=>Sq h0 hem J⟩
 have hkeys:∀x,x∈m3.map (·.1)↔Fo f i x≠0:=by
  intro x;have h1:=hm3.2 x;constructor
  .intro hx h0;rw[if_pos h0] at h1;exact MA h1 hx
  intro h0;rw[if_neg h0] at h1;exact A1G.2 ⟨_,U8 h1,J⟩
 have htot:=T5 hV hL hm3.1 hkeys hhin;have hent:∀p,p∈m3->p.2=tl (Fo f i p.1) (Fa f es es.length p.1) (HI f es hs hs.length p.1):=by
  intro p hp;have h1:=TO hm3.1 (x:=p.1) (v:=p.2) hp;rw[hm3.2] at h1;rw[if_neg ((hkeys _).1 (A1G.2 ⟨p,hp,rfl⟩))] at h1;exact(Option.some.inj h1).symm
 have hmlen:m3.length<=1048576:=by
  have h1:=Kx (b:=ints0 i k) hm3.1 (fun x hx=>?_)
  .simp[ints0] at h1;have:=hLa.2.2.2;omega
  obtain⟨j,hj,hfj⟩:=Uh ((hkeys x).1 hx);obtain⟨h2,h3⟩:=hLa.1 j hj;rw[hfj] at h2 h3;exact A1G.2 ⟨x.toNat,A1r.2 (by omega),by omega⟩
 refine Ak<|Za<|Zx<|Ai<|Zs ?_;refine Zm ?_;refine AU J J (g_range (enc:=encI) (m:=m3) 0 J J J Tryz.underlying227) ?_;rintro _ _ ⟨gi,rfl,rfl⟩;rw[List.set_cons_zero];refine Zx<|As ?_;refine AS (ι:=GeK) (fun j=>(∀p,p∈j.left->p∈m3)/\2*j.S+R2 (Fo f i) (Fa f es es.length) (HI f es hs hs.length) (j.left.map (·.1))=DJ i es fn/\j.left.length<=m3.length/\
   -(16777216*((m3.length:Int)-j.left.length))<=j.S/\j.S<=16777216*((m3.length:Int)-j.left.length))
  (fun j=>[(22,Iv j.S),(114,Pv gi)]) (fun j=>[RA encI gm gi m3 j.left j.last]) (fun j=>j.left.length) ⟨m3,none,0⟩
  ⟨fun p hp=>hp,by dsimp only;rw[htot];unfold DJ EH;rw[<-hheads];omega,A1F _,by dsimp only;omega,by dsimp only;omega⟩ ⟨rfl,rfl,trivial⟩ (Bg .nil) ?_;rintro⟨left,last,S⟩ ⟨hleft,hS,hll,hS1,hS2⟩;dsimp only at hleft hS hll hS1 hS2 ⊢;refine Zs ?_;refine AU J J (g_next (enc:=encI) 0 J J J) ?_;intro v115 L115 hC115;obtain⟨b,rest,rfl,hcase⟩:∃b rest,v115= .tuple ⟨.bool b::rest⟩/\((b=false/\left=[])\/(b=true/\∃j p,left[j]? =some p/\L115=[RA encI gm gi m3 (left.eraseIdx j) (some p)])):=by
  rcases hC115 with⟨rfl,h1,_⟩|⟨j,p,h1,rfl,h2⟩
  .exact⟨false,[],J,.inl ⟨J,h1⟩⟩
  exact⟨true,_,J,.inr ⟨J,j,p,h1,by rw[h2];rfl⟩⟩
 refine Ze<|Zx<|Ai ?_;refine Zd ?_ ?_<;>intro c30
 .obtain⟨j,p,hp,rfl⟩:∃j p,left[j]? =some p/\L115=[RA encI gm gi m3 (left.eraseIdx j) (some p)]:=by
   rcases hcase with⟨h1,_⟩|⟨_,h1⟩
   .rw[h1] at c30;cases c30
   exact h1
  clear hC115 hcase;obtain⟨x,xv⟩:=p;have hpm:=hleft _ (A1h hp);obtain rfl:xv=tl (Fo f i x) (Fa f es es.length x) (HI f es hs hs.length x):=hent _ hpm;have hb1:=Ug f i x;have hb2:=Zv f es es.length x;have hb3:=Zt f es hs hs.length x;have hx0:=(hkeys x).1 (A1G.2 ⟨_,hpm,rfl⟩);have her:=MO (a:=Fo f i) (b:=Fa f es es.length) (c:=HI f es hs hs.length) (ks:=left.map (·.1)) (j:=j) (x:=x) (by rw[A1U,hp];rfl);rw[<-ChangeMaps.map_eraseIdx] at her;have hjl:=(A1e.1 hp).1;have hel:(left.eraseIdx j).length=left.length-1:=List.length_eraseIdx_of_lt hjl;refine Ao<|Aa<|As<|Zs ?_;refine Zu (A0x (p:=(x,tl (Fo f i x) (Fa f es es.length x) (HI f es hs hs.length x))) 0 J J J) ?_;refine Ze ?_;refine ZA LS fun g24=>?_;refine Zq #[Iv (Fo f i x),Iv (Fa f es es.length x),Iv (HI f es hs hs.length x)]<|Zx<|Zs ?_;refine Zz [1,1]<|Zx ?_;refine Zd ?_ ?_<;>intro c32
  .have hne:Fa f es es.length x≠0:=by simp at c32;omega
   have heven:=Wd hok hnx hL hne;rw[<-hheads] at heven;obtain⟨q,hq⟩:∃q:Int,2-((Fo f i x:Nat):Int)+(Fa f es es.length x:Nat)-(HI f es hs hs.length x:Nat)=2*q:=⟨(2-((Fo f i x:Nat):Int)+(Fa f es es.length x:Nat)-(HI f es hs hs.length x:Nat)) / 2,by omega⟩;refine Ak<|Zz [2,2,2,1] ?_;refine Zo (p_quo2 (q:=q) J J J hq (by omega)) ?_;refine Zz [2]<|Az<|An ?_;refine AB ⟨left.eraseIdx j,some (x,tl (Fo f i x) (Fa f es es.length x) (HI f es hs hs.length x)),S+q⟩ (by dsimp only;omega) ⟨fun p hp=>hleft p (List.mem_of_mem_eraseIdx hp),?_,by dsimp only;omega,by dsimp only;rw[hel];omega,by dsimp only;rw[hel];omega⟩ ⟨J,J,trivial⟩ (BC .nil);dsimp only;have:T4 (Fo f i x) (Fa f es es.length x) (HI f es hs hs.length x)=2*q:=by unfold T4;rw[if_pos hne];exact hq
   omega
  refine Ao<|An ?_;have hne:Fa f es es.length x=0:=by simp at c32;omega
  refine AB ⟨left.eraseIdx j,some (x,tl (Fo f i x) (Fa f es es.length x) (HI f es hs hs.length x)),S⟩ (by dsimp only;omega) ⟨fun p hp=>hleft p (List.mem_of_mem_eraseIdx hp),?_,by dsimp only;omega,by dsimp only;rw[hel];omega,by dsimp only;rw[hel];omega⟩ ⟨J,J,trivial⟩ (BC .nil);dsimp only;have:T4 (Fo f i x) (Fa f es es.length x) (HI f es hs hs.length x)=0:=by unfold T4;rw[if_neg (by simp[hne])]
  omega
 refine AN<|Ag<|Ag<|Aq<|Aa<|Zs<|Zz [3]<|Zx<|At ?_;refine Lm 4 5 ?_;refine Bq (.inl J) J J J ?_;refine⟨J,fn,S,hnx,J,?_⟩;have h0:left=[]:=by
  rcases hcase with⟨_,h1⟩|⟨h1,_⟩
  .exact h1
  rw[h1] at c30;simp at c30
 rw[h0] at hS;simpa [R2] using hS
end
section
theorem UA{n:Nat}{es:List Pr}{rs:List (List Int)}{va v:Value}{w:World}(hg:DX w va es)(hl:IM w v rs)(hok:CO n es rs):
  Calls A1c 32 #[.agg #[Iv n,va],v] w (Ret w [] fun r M=>M=[]/\∃fn b,Dj rs rs.length fn/\r= .bool b/\(b=true↔DJ n es fn=0)):=by
 refine cO Tryz.func32 Tryz.ntmps32<|Zs ?_;refine ZB fun g2=>?_;refine Za<|Zx<|Zs ?_;refine CR [_,_] ?_;refine Zm ?_;refine AL J J (AH en79 J J J (fun w' hw=>SO (hg.keep0 hw) (hl.keep0 hw) hok)) ?_;rintro _ ⟨fn,S,hnx,rfl,hS⟩;refine Zz [5]<|Zx<|Zs ?_;refine Zz [3] ?_;refine AM 15 J (fun k2_2=>?_) (fun k2_2=>?_)
 .refine Zz [4]<|Zx<|At ?_;refine DN 4 ?_;refine Zh ?_;exact⟨J,fn,_,hnx,J,by first|(simp;omega)|(simp at k2_2)⟩
 refine Zz [4]<|Zx<|At ?_;refine DN 4 ?_;refine Zh ?_;exact⟨J,fn,_,hnx,J,by first|(simp;omega)|(simp at k2_2)⟩
def FlatR(n:Nat)(es:List Pr)(ls:List (List Int))(b:Prop):Prop:=∃rs fn,Nc es ls rs/\Dj rs rs.length fn/\(b↔DJ n es fn=0)
theorem Su{pl:Bool}{n:Nat}{es:List Pr}{ls:List (List Int)}{va v u:Value}{w:World}(hg:DX w va es)(hv:IM w v ls)(hok:DD n es ls):
  Calls A1c 19 #[.agg #[Iv n,va],.agg #[.bool pl,v,u]] w (Ret w [] fun r M=>M=[]/\∃b,r= .bool b/\FlatR n es ls (b=true)):=by
 have hN:=hok.1.hi;refine cO Tryz.func19 Tryz.ntmps19<|Zs ?_;refine ZB fun g2=>?_;refine ZB fun g3=>?_;refine Za<|Zx<|Zs ?_;refine CR [_,_] ?_;refine Zz [1,0] ?_;refine Bk J J (AH en31 J J J (fun w' hw=>K6 (hg.keep0 hw) (hv.keep0 hw))) ?_;intro v12 L12 hC12;obtain⟨_,g,rs,rfl,rfl,hR⟩:=hC12.resolve_right (fun h=>h.1 hok);have hl:=JC hok hR;have hlen:rs.length=n:=by have:=hl.2.1;simp at this;omega
 rw[A1g];refine CN.own (M:=AC g 37 (Ba rs).toArray::AC g3 27 #[.bool pl,v,u]::AC g2 24 #[Iv n,va]::AT 3 rs) (fun w hw=>hw.perm (List.Perm.cons _ (A1v (l₁:=[_,_]) (l₂:=AT 3 rs)))) ?_;have hshort:∀p,p∈rs->p.2.length<=17592186044416:=fun p hp=>by
  obtain⟨j,hj⟩:=A1j.1 hp;have h1:=(hl.2.2 j p.2 (by rw[A1U,hj];rfl)).2.2;have h2:=Ku es 0 (j:Int);have h3:=hok.1.few;unfold Fr Bs at h1;omega
 refine Zz [7]<|Zx<|Zs ?_;refine CR [_,_] ?_;refine Zm ?_;refine AL J J (AH en32 J J J (fun w' hw=>UA (hg.keep0 hw) (lsv_own (hw.sub (L':=AC g 37 (Ba rs).toArray::AT 3 rs) (((List.Sublist.refl _).cons _).cons _ |>.cons_cons _)) hlen (by omega) hshort) hl)) ?_;rintro _ ⟨fn,b,hnx,rfl,hb⟩;refine Za<|Zx<|At ?_;refine DN 4 ?_;refine Zh ?_;exact⟨J,b,J,_,fn,hR,hnx,hb⟩
theorem OS{pl:Bool}{N:Int}{es cs:List Pr}{va v u:Value}{w:World}(hg:DX w va es)(hu:DX w u cs):
  Calls A1c 20 #[.agg #[Iv N,va],.agg #[.bool pl,v,u]] w (Ret w [] fun r M=>M=[]/\∃b,r= .bool b/\(b=true↔∀c,c∈cs->c∈es)):=by
 obtain⟨B,capb,eu,_,_,_,hleb⟩:=id hu;refine cO Tryz.func20 Tryz.ntmps20<|Zs ?_;refine ZB fun g2=>?_;refine ZB fun g3=>?_;refine Za<|Zx<|Ai<|Zs ?_;refine CR [_,_] ?_;refine CR [_,_,_] ?_;refine Bk J J (AH en33 J J J (fun w' hw=>H5 (hg.keep0 hw) (hu.keep0 hw))) ?_;rintro _ _ ⟨g,ns,rfl,⟨hns,hn⟩,rfl⟩;simp only[zs];refine Zz [2]<|Zx<|As ?_;refine AS (ι:=Nat) (fun i=>i<=cs.length/\∀(j:Nat) c,j<i->cs[j]? =some c->c∈es)
  (fun i=>[(9,Sv g cs.length),(10,Iv cs.length),(11,Iv i)])
  (fun i=>[AC g 3 (AA ns).toArray]) (fun i=>cs.length-i) 0 ⟨A1E _,fun _ _ h=>absurd h (A1w _)⟩ ⟨J,J,J,trivial⟩ (Bg .nil) ?_;rintro i ⟨hi,hin⟩;refine Zs<|Zc<|Zx<|Ai ?_;refine Zd ?_ ?_<;>intro c2
 .have hlt:i<cs.length:=by simpa using c2
  obtain⟨c,hc⟩:∃c,cs[i]? =some c:=⟨_,A1d hlt⟩;obtain⟨x,hx⟩:∃x,ns[i]? =some x:=⟨_,A1d (by omega)⟩;have hcase:=hn i c x hc hx;refine Ao<|Aa<|Ai<|As<|Zs<|Zz [1] ?_;refine Zu (AG J J CA (AK (Br hx))) ?_;refine Za<|Zx<|Zs ?_;refine Zz [2]<|Zx ?_;refine Zd ?_ ?_<;>intro c4
  .refine Zs<|Za<|Zx<|At<|Am<|Ad<|Ad<|Am<|Ad ?_;refine DN 4 ?_;refine Zh ?_;refine⟨J,false,J,?_⟩;simp only[A2u,false_iff];intro h;rcases hcase with⟨_,h1⟩|⟨k,h1,_⟩
   .exact h1 (h c (A1h hc))
   simp at c4;omega
  refine Ao<|An<|Aa<|Ak<|Zz [2]<|Az ?_;refine AB (i+1) (by omega) ⟨by omega,?_⟩ ⟨J,J,J,trivial⟩ (Bg .nil);intro j c' hj hc';rcases A1i.1 hj with hj|rfl
  .exact hin j c' hj hc'
  rw[hc] at hc';cases hc';rcases hcase with⟨h1,_⟩|⟨k,_,h2⟩
  .subst h1;simp at c4
  exact A1h h2
 refine AN<|Ag<|Ag<|Aq<|Aa<|Zs<|Za<|Zx<|At ?_;refine DN 4 ?_;refine Zh ?_;have hie:i=cs.length:=by simp at c2;omega
 subst hie;refine⟨J,true,J,?_⟩;simp only[true_iff];intro c hc;obtain⟨j,hj⟩:=A1j.1 hc;exact hin j c (A1e.1 hj).1 hj
open Classical
def CT(k:Int)(i j:Nat):Bool:=decide (i<j)&&(decide (k≠2)||(decide (i<3)&&decide (3<=j)))
def cw(k:Int)(n:Nat):Nat->Nat
 | 0=>0
 | i+1=>cw k n i+(List.range n).countP (CT k i)
theorem Zb(k:Int)(n:Nat):∀i,cw k n i<=i*n
 | 0=>by simp[cw]
 | i+1=>by
  have:=Zb k n i;have h2:=A2n (p:=CT k i) (l:=List.range n);simp at h2;rw[A3i];unfold cw;omega
theorem J1(k:Int)(i j:Nat):(List.range (j+1)).countP (CT k i)=(List.range j).countP (CT k i)+if CT k i j then 1 else 0:=by
 rw[A2p,A2r];cases h:CT k i j<;>simp[h]
def JJ(m:List (Pr×Value))(S:List Int)(i j:Nat):Prop:=∀x y,S[i]? =some x->S[j]? =some y->(HP m (srt x y)).isSome=true
structure PaI where
 i:Nat
 v:Value
 pv:List Value
theorem KX{k:Int}{gm:Nat}{m:List (Pr×Value)}{cs:RL}{vb:Value}{S:List Int}{w:World}(hO:AR w (AY (Ej encP gm m::Bf vb 3 1 (AA S)::AT 3 cs)) w (Ej encP gm m::Bf vb 3 1 (AA S)::AT 3 cs))(hm:MapR m cs)
 (hs:∀p,p∈cs->p.2.length<=1000000000)(hS:S.length<=6):
  Calls A1c 85 #[Iv k,vb,.map (some gm)] w (Ret w (AY (Ej encP gm m::Bf vb 3 1 (AA S)::AT 3 cs)) fun r M=>M=[]/\∃k0 A0 l0 c0 A1 l1 c1 b,r= .tuple #[.agg #[Iv k0,.slice A0 l0 c0,.slice A1 l1 c1],.bool b]/\
   (b=true↔(∀i j,i<S.length->j<S.length->CT k i j=true->JJ m S i j)/\cw k S.length S.length=m.length)):=by
 refine BO (args:=[_,_,_]) (L:=Ej encP gm m::Bf vb 3 1 (AA S)::AT 3 cs) Tryz.func85 J Tryz.ntmps85 J hO ?_;refine DC.slcs (i:=1) (xs:=S) J (by omega) ?_;rintro A c rfl hA;refine Zs ?_;refine ZA VN fun g6=>?_;refine Za<|Zx<|Zs ?_;refine Zz [2] ?_;refine ZS #[_,_,_] SB ?_;refine ZA VN fun g8=>?_;refine Zq #[_,_,_]<|Zx<|Ai<|Zs ?_;refine Zz [3]<|Zx<|As ?_;refine DC.own (fun w hw=>Ck (t:=37) (m:=1) hw) ?_;let ca:=AC g6 94 #[Iv 0,Nv,Nv];refine AS (ι:=PaI) (fun j=>j.i<=S.length/\j.pv.length=cw k S.length j.i/\∀a b,a<j.i->b<S.length->CT k a b=true->JJ m S a b)
  (fun j=>[(0,Iv k),(1,.slice A S.length c),(2,.map (some gm)),(6,Pv g6),(8,Pv g8),(18,.slice A S.length c),(19,Iv S.length),(20,Iv j.i)])
  (fun j=>Ej encP gm m::Bf (.slice A S.length c) 3 1 (AA S)::Bf j.v 37 1 j.pv::AC g8 94 #[Iv k,.slice A S.length c,j.v]::ca::AT 3 cs) (fun j=>S.length-j.i)
  ⟨0,Nv,[]⟩ ⟨A1E _,rfl,fun _ _ h=>absurd h (A1w _)⟩ ⟨rfl,rfl,rfl,rfl,rfl,rfl,rfl,rfl,trivial⟩ (Et (Et (Bg (Bg (Bg (Ay _)))))) ?_;rintro⟨i,v,pv⟩ ⟨hi,hpv,hJ⟩;dsimp only at hi hpv hJ ⊢;refine Zs<|Zc<|Zx<|Ai ?_;refine Zd ?_ ?_<;>intro c3
 .have hlt:i<S.length:=by simpa using c3
  obtain⟨ad,rfl⟩:=hA (fun e=>by rw[e] at hlt;simp at hlt);obtain⟨x,hx⟩:∃x,S[i]? =some x:=⟨_,A1d hlt⟩;refine Ao<|Aa<|Ai<|As<|Zs<|Zm ?_;refine Zj (ad.add i) ?_;refine Zu (AG J J CA (Cv (i:=1) J hx (by omega))) ?_;refine Zz [2]<|Zx<|Zs ?_;refine Zz [3]<|Zx<|As ?_;let cb:=Bf (.slice (some ad) S.length c) 3 1 (AA S);refine AS (ι:=PaI) (fun j=>j.i<=S.length/\j.pv.length=cw k S.length i+(List.range j.i).countP (CT k i)/\∀b,b<j.i->CT k i b=true->JJ m S i b)
   (fun j=>[(0,Iv k),(1,.slice (some ad) S.length c),(2,.map (some gm)),(6,Pv g6),(8,Pv g8),(9,Iv i),(10,Iv x),(18,.slice (some ad) S.length c),(19,Iv S.length),(20,Iv i),(25,.slice (some ad) S.length c),(26,Iv S.length),(27,Iv j.i)])
   (fun j=>Ej encP gm m::cb::Bf j.v 37 1 j.pv::AC g8 94 #[Iv k,.slice (some ad) S.length c,j.v]::ca::AT 3 cs) (fun j=>S.length-j.i)
   ⟨0,v,pv⟩ ⟨A1E _,by simp[hpv],fun _ h=>absurd h (A1w _)⟩ ⟨rfl,rfl,rfl,rfl,rfl,rfl,rfl,rfl,rfl,rfl,rfl,rfl,rfl,trivial⟩ (Ay _) ?_;rintro⟨j,v2,pv2⟩ ⟨hj,hpv2,hJ2⟩;dsimp only at hj hpv2 hJ2 ⊢;refine Zs<|Zc<|Zx<|Ai ?_;refine Zd ?_ ?_<;>intro c6
  .have hjl:j<S.length:=by simpa using c6
   obtain⟨y,hy⟩:∃y,S[j]? =some y:=⟨_,A1d hjl⟩;have hb1:=Zb k S.length i;have hb2:i*S.length<=6*6:=Nat.mul_le_mul (by omega) (by omega);have hb3:=A2n (p:=CT k i) (l:=List.range j);rw[A2m] at hb3;refine Ao<|Aa<|Ai<|As<|Zs<|Zm ?_;refine Zj (ad.add j) ?_;refine Zu (AG J J CA (Cv (i:=1) J hy (by omega))) ?_;refine Zz [2]<|Zx<|Ai<|Zs ?_;refine Zz [4] ?_;refine AM 35 J (fun k8_3=>?_) (fun k8_3=>?_)
   .refine Zz [11]<|Zx ?_;refine Bn J<|AN<|Ag<|Aq<|Aa<|Ak ?_;refine Zz [2]<|Az ?_;have hno:CT k i j=false:=by simp at k8_3;simp[CT];omega
    refine AB ⟨j+1,v2,pv2⟩ (by dsimp only;omega) ⟨by dsimp only;omega,by dsimp only;rw[J1,hno];simpa using hpv2,fun b hb hw=>?_⟩ ⟨J,J,J,J,J,J,J,J,J,J,J,J,J,trivial⟩ (Ay _);rcases A1i.1 hb with hb|rfl
    .exact hJ2 b hb hw
    rw[hno] at hw;cases hw
   refine Zz [3] ?_;refine AM 38 J (fun k8_6=>?_) (fun k8_6=>?_)
   .refine Zz [3] ?_;refine AM 41 J (fun k8_9=>?_) (fun k8_9=>?_)
    .refine Zz [5]<|Zx ?_;refine Bn J<|AN<|Ag<|Aq<|Aa<|Ak ?_;refine Zz [2]<|Az ?_;have hno:CT k i j=false:=by simp at k8_3 k8_6 k8_9;simp[CT,k8_6];omega
     refine AB ⟨j+1,v2,pv2⟩ (by dsimp only;omega) ⟨by dsimp only;omega,by dsimp only;rw[J1,hno];simpa using hpv2,fun b hb hw=>?_⟩ ⟨J,J,J,J,J,J,J,J,J,J,J,J,J,trivial⟩ (Ay _);rcases A1i.1 hb with hb|rfl
     .exact hJ2 b hb hw
     rw[hno] at hw;cases hw
    refine Zz [5]<|Zx ?_;refine Zd ?_ ?_<;>intro c8
    .refine AN<|Ag<|Aq<|Aa<|Ak<|Zz [2]<|Az ?_;have hno:CT k i j=false:=by simp at k8_3 k8_6 k8_9 c8;simp[CT,k8_6];omega
     refine AB ⟨j+1,v2,pv2⟩ (by dsimp only;omega) ⟨by dsimp only;omega,by dsimp only;rw[J1,hno];simpa using hpv2,fun b hb hw=>?_⟩ ⟨J,J,J,J,J,J,J,J,J,J,J,J,J,trivial⟩ (Ay _);rcases A1i.1 hb with hb|rfl
     .exact hJ2 b hb hw
     rw[hno] at hw;cases hw
    refine Ao<|Aa<|Ai ?_;have hyes:CT k i j=true:=by
     first
     | (simp at k8_3 k8_6 k8_9 c8;simp[CT];omega)
     | (simp at k8_3 k8_6;simp[CT,k8_6];omega)
    refine Ak<|Zz [3] ?_;refine AU J J (BT Y6 J J J (Lc:=Ej encP gm m::([cb,Bf v2 37 1 pv2,AC g8 94 #[Iv k,.slice (some ad) S.length c,v2],ca]++AT 3 cs)) (F:=[]) (by rw[A1O];exact .refl _) (fun k hk=>hk) (fun w' hw=>Hj hw.self hm hs)) ?_;rintro _ _ ⟨_,⟨rfl,A',l',c',rfl⟩,rfl⟩;rw[A1O];simp only[zs];refine Zz [5]<|Zx<|Ai<|Zs ?_;refine Zz [2]<|Zx ?_;refine Zd ?_ ?_<;>intro c10
    .refine Zs ?_;refine ZS #[_,_,_] SB ?_;refine Zq #[_,_,_] ?_;refine Za<|Zx<|At<|Ad<|Am<|Ad<|Ad<|Am<|Am<|Ad<|Ad<|Am<|Ad ?_;refine AZ (E':=[(6,Pv g6),(7,.bool false)]) (L':=[ca]) ⟨J,J,trivial⟩ (LQ .nil) ?_;refine DI (cs:=#[_,_,_]) (.inl J) J J J NH No ?_;refine⟨[],fun w hw=>hw.sub (A1l _),J,_,_,_,_,_,_,_,false,J,?_⟩;simp only[A2u,false_iff];rintro⟨h1,_⟩;have h2:=h1 i j hlt hjl hyes x y hx hy;rw[h2] at c10;simp at c10
    refine Ao<|Aa<|Ak<|Zz [1,1] ?_;refine ZL #[_] A1B ET Gq fun g60=>?_;refine AU J J (Bt J J J A1B ET Sx Gq J (by decide) (by decide) (news:=[.slice A' l' c']) (k:=1) (fun w hw=>hw.perm (Bj (i:=3) J).symm) (.inl ⟨_,_,J,AW J⟩) J (fun u hu=>by rw[A2F.1 hu];rfl) (by simp;omega)) ?_;rintro v61 _ rfl;simp only[A2Q,A3C];refine CN.shape (t:=37) (m:=1) (vs:=pv2++[.slice A' l' c']) 0 J ?_;rintro⟨A61,l61,c61,rfl⟩;refine Zz [1] ?_;refine Jj #[_,_,_]<|Az<|An<|Aa<|Ak ?_;refine Zz [2]<|Az ?_;have hjj:JJ m S i j:=fun x' y' hx' hy'=>by
     rw[hx] at hx';rw[hy] at hy';cases hx';cases hy';simpa using c10
    refine AB ⟨j+1,.slice A61 l61 c61,pv2++[.slice A' l' c']⟩ (by dsimp only;omega) ⟨by dsimp only;omega,by dsimp only;rw[J1,hyes,A1V,hpv2];simp;omega,fun b hb hw=>?_⟩ ⟨J,J,J,J,J,J,J,J,J,J,J,J,J,trivial⟩ (CY (CY (Bg (BC (BC (DG _ _))))));rcases A1i.1 hb with hb|rfl
    .exact hJ2 b hb hw
    exact hjj
   refine Zz [8]<|Zx ?_;refine BN J<|Ao<|Aa<|Ai ?_;have hyes:CT k i j=true:=by
    first
    | (simp at k8_3 k8_6 k8_9 c8;simp[CT];omega)
    | (simp at k8_3 k8_6;simp[CT,k8_6];omega)
   refine Ak<|Zz [3] ?_;refine AU J J (BT Y6 J J J (Lc:=Ej encP gm m::([cb,Bf v2 37 1 pv2,AC g8 94 #[Iv k,.slice (some ad) S.length c,v2],ca]++AT 3 cs)) (F:=[]) (by rw[A1O];exact .refl _) (fun k hk=>hk) (fun w' hw=>Hj hw.self hm hs)) ?_;rintro _ _ ⟨_,⟨rfl,A',l',c',rfl⟩,rfl⟩;rw[A1O];simp only[zs];refine Zz [5]<|Zx<|Ai<|Zs ?_;refine Zz [2]<|Zx ?_;refine Zd ?_ ?_<;>intro c10
   .refine Zs ?_;refine ZS #[_,_,_] SB ?_;refine Zq #[_,_,_] ?_;refine Za<|Zx<|At<|Ad<|Am<|Ad<|Ad<|Am<|Am<|Ad<|Ad<|Am<|Ad ?_;refine AZ (E':=[(6,Pv g6),(7,.bool false)]) (L':=[ca]) ⟨J,J,trivial⟩ (LQ .nil) ?_;refine DI (cs:=#[_,_,_]) (.inl J) J J J NH No ?_;refine⟨[],fun w hw=>hw.sub (A1l _),J,_,_,_,_,_,_,_,false,J,?_⟩;simp only[A2u,false_iff];rintro⟨h1,_⟩;have h2:=h1 i j hlt hjl hyes x y hx hy;rw[h2] at c10;simp at c10
   refine Ao<|Aa<|Ak<|Zz [1,1] ?_;refine ZL #[_] A1B ET Gq fun g60=>?_;refine AU J J (Bt J J J A1B ET Sx Gq J (by decide) (by decide) (news:=[.slice A' l' c']) (k:=1) (fun w hw=>hw.perm (Bj (i:=3) J).symm) (.inl ⟨_,_,J,AW J⟩) J (fun u hu=>by rw[A2F.1 hu];rfl) (by simp;omega)) ?_;rintro v61 _ rfl;simp only[A2Q,A3C];refine CN.shape (t:=37) (m:=1) (vs:=pv2++[.slice A' l' c']) 0 J ?_;rintro⟨A61,l61,c61,rfl⟩;refine Zz [1] ?_;refine Jj #[_,_,_]<|Az<|An<|Aa<|Ak ?_;refine Zz [2]<|Az ?_;have hjj:JJ m S i j:=fun x' y' hx' hy'=>by
    rw[hx] at hx';rw[hy] at hy';cases hx';cases hy';simpa using c10
   refine AB ⟨j+1,.slice A61 l61 c61,pv2++[.slice A' l' c']⟩ (by dsimp only;omega) ⟨by dsimp only;omega,by dsimp only;rw[J1,hyes,A1V,hpv2];simp;omega,fun b hb hw=>?_⟩ ⟨J,J,J,J,J,J,J,J,J,J,J,J,J,trivial⟩ (CY (CY (Bg (BC (BC (DG _ _))))));rcases A1i.1 hb with hb|rfl
   .exact hJ2 b hb hw
   exact hjj
  refine AN<|Ag<|Ag<|Aq<|An<|Aa<|Ak<|Zz [2]<|Az ?_;have hje:j=S.length:=by simp at c6;omega
  subst hje;refine AB ⟨i+1,v2,pv2⟩ (by dsimp only;omega) ⟨by dsimp only;omega,hpv2,fun a b ha hb hw=>?_⟩ ⟨J,J,J,J,J,J,J,J,trivial⟩ (Ay _);rcases A1i.1 ha with ha|rfl
  .exact hJ a b ha hb hw
  exact hJ2 b hb hw
 refine AN<|Ag<|Ag<|Aq<|Aa<|Ai<|Ai ?_;have hie:i=S.length:=by simp at c3;omega
 subst hie;have hb1:=Zb k S.length S.length;have hb2:S.length*S.length<=6*6:=Nat.mul_le_mul (by omega) (by omega);refine LR (i:=2) J ?_;rintro Av cv rfl hAv;refine Ak<|Zz [1,2] ?_;refine Zu (Xy 0 J J J Tryz.underlying191) ?_;refine Zz [1]<|Zx ?_;refine Zd ?_ ?_<;>intro c15
 .refine Zs ?_;refine ZS #[_,_,_] SB ?_;refine Zq #[_,_,_] ?_;refine Za<|Zx<|At<|Ad ?_;refine AZ (E':=[(6,Pv g6),(7,.bool false)]) (L':=[ca]) ⟨J,J,trivial⟩ (LQ .nil) ?_;refine DI (cs:=#[_,_,_]) (.inl J) J J J NH No ?_;refine⟨[],fun w hw=>hw.sub (A1l _),J,_,_,_,_,_,_,_,false,J,?_⟩;simp only[A2u,false_iff];rintro⟨_,h2⟩;simp at c15;omega
 refine Ao<|Aa<|Zs ?_;refine CR [_,_,_] ?_;refine Zq #[_,_,_] ?_;refine Za<|Zx<|At ?_;refine AZ (E':=[(6,Pv g6),(7,.bool true)]) (L':=[AC g6 94 #[Iv k,.slice A S.length c,.slice Av pv.length cv]]) ⟨J,J,trivial⟩ (LQ .nil) ?_;refine DI (cs:=#[_,_,_]) (.inl J) J J J NH No ?_;refine⟨[],fun w hw=>hw.sub (A1l _),J,_,_,_,_,_,_,_,true,J,?_⟩;simp only[true_iff];exact⟨fun i j hi hj hw=>hJ i j hi hj hw,by simp at c15;omega⟩
end
section
open Classical
theorem LG{κ:Type}[DecidableEq κ](m:List (κ×Value))(q:κ):(HP m q).isSome=decide (q∈m.map (·.1)):=by
 cases h:HP m q with
 | none=>simpa using MA h
 | some v=>
  have:q∈m.map (·.1):=A1G.2 ⟨_,U8 h,rfl⟩;simp only[Option.isSome_some];exact(decide_eq_true this).symm
structure ReI where
 i:Nat
 m:List (Pr×Value)
structure MapE (E:List Pr) (cs:RL) (i:Nat) (m:List (Pr×Value)):Prop where
 keys:m.map (·.1)=E.take i
 nd:(E.take i).Nodup
 ne:∀p,p∈E.take i->p.1≠p.2
 row:MapR m cs
theorem MapE.next{E:List Pr}{cs:RL}{i:Nat}{m:List (Pr×Value)}(h:MapE E cs i m){q:Pr}(hq:E[i]? =some q)(hno:q∉m.map (·.1))(hne:q.1≠q.2){p:Value×List Int}(hp:p∈cs):MapE E cs (i+1) (EA q p.1 m):=by
 have hk:(EA q p.1 m).map (·.1)=m.map (·.1)++[q]:=by
  rw[Kr,LG,if_neg (by simpa using hno)]
 have ht:E.take (i+1)=E.take i++[q]:=by rw[A1W,hq];rfl
 refine⟨by rw[hk,ht,h.keys],?_,?_,?_⟩
 .rw[ht,A1I];refine⟨h.nd,by simp,fun a ha b hb e=>?_⟩;simp at hb;subst hb;subst e;rw[<-h.keys] at ha;exact hno ha
 .intro x hx;rw[ht] at hx;rcases A1C.1 hx with hx|hx
  .exact h.ne x hx
  simp at hx;subst hx;exact hne
 intro x v hv;rw[Hh] at hv;split at hv
 .cases hv;exact⟨p,hp,rfl⟩
 exact h.row x v hv
theorem WH(es:List Pr)(k:Nat):(JW es k).length=(FX es k).length:=by simp[JW]
theorem PI{m:List (Pr×Value)}{E:List Pr}(hlk:∀q,(HP m q).isSome=decide (q∈E)){S:List Int}{i j:Nat}{x y:Int}(hx:S[i]? =some x)(hy:S[j]? =some y):JJ m S i j↔srt x y∈E:=by
 unfold JJ;constructor
 .intro h;have:=h x y hx hy;rw[hlk] at this;simpa using this
 intro h x' y' hx' hy';rw[hx] at hx';rw[hy] at hy';cases hx';cases hy';rw[hlk];simpa using h
theorem kp5{EU:List Pr}{B:List Int}{m:List (Pr×Value)}(hg:VL EU)(hl:B.length=5)(hlk:∀q,(HP m q).isSome=decide (q∈EU))(hml:m.length=EU.length):
  ((∀i j,i<B.length->j<B.length->CT 1 i j=true->JJ m B i j)/\cw 1 B.length B.length=m.length)↔KP EU B 4:=by
 have hc:cw 1 5 5=10:=by decide
 have key:(∀i j,i<B.length->j<B.length->CT 1 i j=true->JJ m B i j)↔∀q,q∈Is B->q∈EU:=by
  constructor
  .intro h q hq;obtain⟨i,j,x,y,hij,hx,hy,rfl⟩:=Fi.1 hq;exact(PI hlk hx hy).1 (h i j (A1e.1 hx).1 (A1e.1 hy).1 (by simp[CT,hij]))
  intro h i j hi hj hw;obtain⟨x,hx⟩:∃x,B[i]? =some x:=⟨_,A1d hi⟩;obtain⟨y,hy⟩:∃y,B[j]? =some y:=⟨_,A1d hj⟩;refine(PI hlk hx hy).2 (h _ (Fi.2 ⟨i,j,x,y,?_,hx,hy,J⟩));simp[CT] at hw;exact hw
 rw[key,hl,hc,hml];unfold KP;constructor
 .rintro⟨h1,h2⟩;exact⟨hg,.inl ⟨hl,J,h1,h2.symm⟩⟩
 rintro⟨_,⟨_,_,h1,h2⟩|⟨_,h,_⟩⟩
 .exact⟨h1,h2.symm⟩
 omega
theorem kp33{EU:List Pr}{B:List Int}{m:List (Pr×Value)}(hg:VL EU)(hl:B.length=6)(hlk:∀q,(HP m q).isSome=decide (q∈EU))(hml:m.length=EU.length):
  ((∀i j,i<(CB EU B).length->j<(CB EU B).length->CT 2 i j=true->JJ m (CB EU B) i j)/\cw 2 (CB EU B).length (CB EU B).length=m.length)↔KP EU B 3:=by
 have hc:cw 2 6 6=9:=by decide
 have hsl:(CB EU B).length=6:=(I0 EU B).length_eq.trans hl;have key:(∀i j,i<(CB EU B).length->j<(CB EU B).length->CT 2 i j=true->JJ m (CB EU B) i j)↔∀q,q∈LN (CB EU B)->q∈EU:=by
  constructor
  .intro h q hq;obtain⟨i,j,x,y,hi,hj,hx,hy,rfl⟩:=Gj.1 hq;exact(PI hlk hx hy).1 (h i j (A1e.1 hx).1 (A1e.1 hy).1 (by simp[CT,hi,hj];omega))
  intro h i j hi hj hw;obtain⟨x,hx⟩:∃x,(CB EU B)[i]? =some x:=⟨_,A1d hi⟩;obtain⟨y,hy⟩:∃y,(CB EU B)[j]? =some y:=⟨_,A1d hj⟩;simp[CT] at hw;exact(PI hlk hx hy).2 (h _ (Gj.2 ⟨i,j,x,y,hw.2.1,hw.2.2,hx,hy,J⟩))
 rw[key,hsl,hc,hml];unfold KP;constructor
 .rintro⟨h1,h2⟩;exact⟨hg,.inr ⟨hl,J,h1,h2.symm⟩⟩
 rintro⟨_,⟨_,h,_⟩|⟨_,_,h1,h2⟩⟩
 .omega
 exact⟨h1,h2.symm⟩
theorem Lj{n:Nat}{es:List Pr}{va:Value}{w:World}(hg:DX w va es)(hV:BX n es):
  Calls A1c 35 #[.agg #[Iv n,va]] w (Ret w [] fun r M=>M=[]/\∃k0 A0 l0 c0 A1 l1 c1 b,r= .tuple #[.agg #[Iv k0,.slice A0 l0 c0,.slice A1 l1 c1],.bool b,Iv 0]/\(b=true↔HA n es)):=by
 have hg0:=hg;obtain⟨A,cap,rfl,hr,hlc,hcm,hle⟩:=hg;have hfew:=hV.few;have hno:∀{L:List Chunk} {w':World},AR w [] w' L->AR w [] w' []:=fun hw=>hw.sub (A1l _);refine cO Tryz.func35 Tryz.ntmps35<|Zs ?_;refine ZB fun g1=>?_;refine ZA VN fun g2=>?_;refine Zz [2]<|Zx<|Zs ?_;refine CR [_,_] ?_;refine Bk J J (AH en36 J J J (fun w' hw=>KR n es A cap w' (hr.keep0 hw) (by omega))) ?_;intro v23 L23 hC23;obtain⟨_,M,hP,rfl,rfl⟩:=hC23.resolve_left (fun h=>h.1 hV);simp only[NI,A1K,A1N];refine Zz [5]<|Zx<|Ai<|Zs ?_;refine Zz [2]<|Zx ?_;refine Zd ?_ ?_<;>intro c2
 .refine Zs ?_;refine ZS #[_,_,_] SB ?_;refine Zm ?_;refine Zq #[_,_,_] ?_;refine Zz [2]<|Zx<|At<|Ad ?_;refine E5 (cs:=#[_,_,_]) (.inl J) J J J J NH No ?_;simp at c2
 refine Ao<|Aa<|Zs<|Zm ?_;refine Bk J J (AH en83 J J J (fun w' hw=>MF (P8 hw (Bg (Bg (Bg (Bg (Bg .nil))))) hP))) ?_;intro v32 L32 hC32;obtain⟨A',l',c',d,rfl,hD32⟩:∃A' l' c' d,v32= .tuple #[.slice A' l' c',Iv (d:Nat)]/\
   ((l'=(DQ es n).length/\L32=[Bf (.slice A' (DQ es n).length c') 3 1 (AA (DQ es n))]/\∀u,u∈DQ es n->Cg es u=d)\/(l'=0/\¬∃d,∀u,u∈DQ es n->Cg es u=d)):=by
  rcases hC32 with⟨A',c',d,h1,h2,h3⟩|⟨h1,_,h3⟩
  .exact⟨A',_,c',d,h1,.inl ⟨J,h2,h3⟩⟩
  exact⟨none,0,0,0,h1,.inr ⟨J,h3⟩⟩
 clear hC32;let ca:=AC g1 24 #[Iv n,.slice A es.length cap];refine CN.own (M:=AC g2 94 #[Iv 0,Nv,Nv]::ca::L32) (fun w hw=>(hw.sub (L':=L32++[AC g2 94 #[Iv 0,Nv,Nv],ca]) ((List.Sublist.refl L32).append (((((List.Sublist.refl _).cons _).cons _).cons _).cons _ |>.cons _))).perm (A1v (l₁:=[_,_]))) ?_;refine Zz [5]<|Zx<|Ai ?_;refine DC.cut (ι:=Bool) (fun b=>b=true↔¬((l'=5/\d=4)\/(l'=6/\d=3)))
  (fun b=>[(1,Pv g1),(2,Pv g2),(7,.slice A' l' c'),(8,Iv d),(52,.bool b)])
  (fun _=>AC g2 94 #[Iv 0,Nv,Nv]::ca::L32) ?first5 ?rest5
 case first5=>
  refine Ak<|Zz [4] ?_;refine AM 38 J (fun k5_3=>?_) (fun k5_3=>?_)
  .refine Zz [5] ?_;refine AM 43 J (fun k5_8=>?_) (fun k5_8=>?_)
   .refine Zz [4] ?_;refine AM 47 J (fun k5_12=>?_) (fun k5_12=>?_)
    .refine Zz [5]<|Az ?_;refine Be _ ?_ ⟨J,J,J,J,J,trivial⟩ (Ay _);simp at *;omega
    refine Zz [5]<|Az ?_;refine Be _ ?_ ⟨J,J,J,J,J,trivial⟩ (Ay _);simp at *;omega
   refine Zz [9]<|Az ?_;refine Be _ ?_ ⟨J,J,J,J,J,trivial⟩ (Ay _);simp at *;omega
  refine Zz [9] ?_;refine AM 47 J (fun k5_12=>?_) (fun k5_12=>?_)
  .refine Zz [5]<|Az ?_;refine Be _ ?_ ⟨J,J,J,J,J,trivial⟩ (Ay _);simp at *;omega
  refine Zz [5]<|Az ?_;refine Be _ ?_ ⟨J,J,J,J,J,trivial⟩ (Ay _);simp at *;omega
 rintro b5 hb5;refine Zd ?_ ?_<;>intro c5
 .refine Zs ?_;refine ZS #[_,_,_] SB ?_;refine Zq #[_,_,_] ?_;refine Zz [2]<|Zx<|At<|Ad ?_;refine AZ (E':=[(2,Pv g2),(3,.bool false),(4,Iv 0)]) (L':=[AC g2 94 #[Iv 0,Nv,Nv]]) ⟨J,J,J,trivial⟩ (Bg .nil) ?_;refine E5 (cs:=#[_,_,_]) (.inl J) J J J J NH No ?_;refine⟨[],fun w hw=>hw.sub (A1l _),J,_,_,_,_,_,_,_,false,J,?_⟩;simp only[A2u,false_iff];rintro⟨d',hd',hK⟩;have h5:=hb5.1 c5;rcases hD32 with⟨hl',_,hd⟩|⟨_,hno2⟩
  .have hdd:DQ es n≠[]->d=d':=fun hne=>by
    obtain⟨u,hu⟩:=A2i _ hne;rw[<-hd u hu,hd' u hu]
   rcases hK.2 with⟨k1,k2,_⟩|⟨k1,k2,_⟩
   .have:=hdd (fun e=>by rw[e] at k1;simp at k1);exact h5 (.inl ⟨by omega,by omega⟩)
   have:=hdd (fun e=>by rw[e] at k1;simp at k1);exact h5 (.inr ⟨by omega,by omega⟩)
  exact hno2 ⟨d',hd'⟩
 refine Ao<|Aa<|Ai ?_;have hld:(l'=5/\d=4)\/(l'=6/\d=3):=by
  apply Classical.byContradiction;intro h;rw[hb5.2 h] at c5;cases c5
 obtain⟨rfl,rfl,hd⟩:=hD32.resolve_right (fun h=>by have:=h.1;omega);refine Ak ?_;refine CR [_,_] ?_;refine Bk J J (AH en84 J J J (fun w' hw=>Qo (hg0.keep0 hw) hV)) ?_;rintro _ _ ⟨v9,cs,rfl,hch,rfl⟩;refine CN.own (M:=Bf v9 37 1 (Ba cs)::AC g2 94 #[Iv 0,Nv,Nv]::ca::Bf (.slice A' (DQ es n).length c') 3 1 (AA (DQ es n))::AT 3 cs) (fun w hw=>hw.perm (List.Perm.cons _ (A1v (l₁:=[_,_,_]) (l₂:=AT 3 cs)))) ?_;refine Zz [5]<|Zx<|Zs ?_;refine Bk J J (GI (enc:=encP) J) ?_;rintro _ _ ⟨gm,rfl,rfl⟩;simp only[zs];refine Za<|Zx<|Ai<|Ai ?_;obtain⟨EU,hEU⟩:∃EU,EU=JW es es.length:=⟨_,rfl⟩;have hEl:EU.length=cs.length:=by rw[hEU,WH,hch.len]
 have hcsl:cs.length<=es.length:=by rw[hch.len];exact L7 _
 have hrows:∀p,p∈cs->p.2.length<=1000000000:=fun p hp=>by
  obtain⟨j,hj⟩:=A1j.1 hp;obtain⟨e,he⟩:∃e,(FX es es.length)[j]? =some e:=⟨_,A1d (by rw[<-hch.len];exact(A1e.1 hj).1)⟩;have:=(hch.at' j e p he hj).2.2;omega
 refine LR (i:=1) (v:=v9) J ?_;rintro A9 c9 rfl hA9;rw[rowsV_length];refine Ak<|Zz [3]<|Zx<|As ?_;refine AS (ι:=ReI) (fun j=>j.i<=cs.length/\MapE EU cs j.i j.m)
  (fun j=>[(2,Pv g2),(7,.slice A' (DQ es n).length c'),(8,Iv d),(11,.map (some gm)),(60,.slice A9 cs.length c9),(61,Iv cs.length),(62,Iv j.i)])
  (fun j=>Ej encP gm j.m::Bf (.slice A9 cs.length c9) 37 1 (Ba cs)::AC g2 94 #[Iv 0,Nv,Nv]::Bf (.slice A' (DQ es n).length c') 3 1 (AA (DQ es n))::AT 3 cs) (fun j=>cs.length-j.i) ⟨0,[]⟩
  ⟨A1E _,rfl,by simp,by simp,fun _ _ h=>by cases h⟩ ⟨rfl,rfl,rfl,rfl,rfl,rfl,rfl,trivial⟩ (Bg (Bg (Bg (BC (DG _ _))))) ?_;rintro⟨i,m⟩ ⟨hi,hmE⟩;dsimp only at hi hmE ⊢;refine Zs<|Zc<|Zx<|Ai ?_;refine Zd ?_ ?_<;>intro c10
 .have hlt:i<cs.length:=by simpa using c10
  obtain⟨p,hp⟩:∃p,cs[i]? =some p:=⟨_,A1d hlt⟩;obtain⟨e,he⟩:∃e,(FX es es.length)[i]? =some e:=⟨_,A1d (by rw[<-hch.len];exact hlt)⟩;obtain⟨⟨p0,q0,hp0,hq0,hw1,hw2⟩,hpl,hpu⟩:=hch.at' i e p he hp;have hEUi:EU[i]? =some (srt (JX es e) (Le es e)):=by rw[hEU];unfold JW;rw[A1U,he];rfl
  obtain⟨ad9,rfl⟩:=hA9 (fun e=>by have:=congrArg List.length e;simp at this;rw[this] at hlt;simp at hlt);refine Ao<|Aa<|Ai<|As<|Zs ?_;refine Zj (ad9.add i) ?_;refine Zu (AG J J D8 (RZ (i:=1) (q:=p.1) J (by simp[Ba,hp]))) ?_;refine Za<|Zx<|Ai ?_;refine DC.slcs (v:=p.1) (i:=i+4) (xs:=p.2) (t:=3) (by simp[AT,hp]) (by omega) ?_;rintro A3 c3 hp1 hA3;obtain⟨ad3,rfl⟩:=hA3 (fun e=>by rw[e] at hp0;simp at hp0);have hrow:∀{F:List Chunk} (a b c d:Chunk),(a::b::c::d::AT 3 cs)[i+4]? =some (Bf (.slice (some ad3) p.2.length c3) 3 1 (AA p.2)):=fun a b c d=>by rw[<-hp1];simp[AT,hp]
  rw[hp1];refine Fv 320100000100 12 ?_;refine Ym ?_;refine Yj (ad3.add 0) ?_;refine Yg ?_ (hh:=by exact(Cv (t:=3) (i:=i+4) (l:=p.2.length) (c:=c3) (hrow (F:=[]) _ _ _ _) hp0 (by omega)));refine Yz [2] ?_;refine Yo J (EC J J A1x) ?_;refine Yz [1] ?_;refine Yi (ad':=ad3.add (p.2.length-1)) A1x Bw ?_ (he:=by rw[show((p.2.length:Int)-1).toNat=p.2.length-1 by omega]);refine Yg ?_ (hh:=by exact(Cv (t:=3) (i:=i+4) (l:=p.2.length) (c:=c3) (hrow (F:=[]) _ _ _ _) hq0 (by omega)));refine Yo J (Pw (cs:=#[Iv p0,Iv q0]) J J Tryz.underlying149 Bw NP J J J) ?_;refine A8 J J J J (DL J NP J) fun g14=>?_;refine BF.sto (V:=(AC g14 149 #[Iv 0,Iv 0]::Ej encP gm m::Bf (.slice (some ad9) cs.length c9) 37 1 (Ba cs)::AC g2 94 #[Iv 0,Nv,Nv]::Bf (.slice A' (DQ es n).length c') 3 1 (AA (DQ es n))::AT 3 cs)) J J J J J (B3 (cs':=#[_,_]) J J J XI J (A1f J) J) PN ?_;refine AF J ?_;simp only[zq,zr];refine Aa<|Ai<|Zs<|Zm ?_;refine CR [_,_] ?_;refine Zu (Fd (k:=(p0,q0)) (ok:=true) 1 J KF J J J Tryz.underlying191 Gq J) ?_;refine Zz [5]<|Zx<|Zs ?_;refine Zz [2] ?_;refine AM 83 J (fun k14_1=>?_) (fun k14_1=>?_)
  .refine Zz [6]<|Zx ?_;refine Bn J<|Zs ?_;refine ZS #[_,_,_] SB ?_;refine Zq #[_,_,_] ?_;refine Zz [2]<|Zx<|At<|Ad<|Am<|Ad<|Ad<|Am<|Ad ?_;refine AZ (E':=[(2,Pv g2),(3,.bool false),(4,Iv 0)]) (L':=[AC g2 94 #[Iv 0,Nv,Nv]]) ⟨J,J,J,trivial⟩ (Et .nil) ?_;refine E5 (cs:=#[_,_,_]) (.inl J) J J J J NH No ?_;refine⟨[],fun w hw=>hw.sub (A1l _),J,_,_,_,_,_,_,_,false,J,?_⟩;simp only[A2u,false_iff];rintro⟨d',hd',hK,_⟩;rw[<-hEU] at hK;have hin:(p0,q0)∈m.map (·.1):=by rw[LG] at k14_1;simpa using k14_1
   rw[hmE.keys] at hin;by_cases hab:JX es e=Le es e
   .exact hK.2 _ (A1h hEUi) (by unfold srt;simp only;omega)
   obtain⟨e1,e2⟩:=hw2 hab;have hpq:(p0,q0)=srt (JX es e) (Le es e):=by unfold srt;rw[e1,e2]
   rw[hpq] at hin;obtain⟨j,hj⟩:=A1j.1 hin;rw[A2j] at hj;split at hj
   .rename_i hji;have:=(A3x (by have:=(A1e.1 hj).1;exact this) hK.1).1 (hj.trans hEUi.symm);omega
   cases hj
  refine Zo (Rl (ad':=⟨g14,0,none⟩) J J J Tryz.underlying149 Bw (by omega) (by omega) (AX _ _)) ?_;refine Zl CA ?_;refine Zo (Rl (ad':=⟨g14,1,none⟩) J J J Tryz.underlying149 Bw (by omega) (by omega) (AX _ _)) ?_;refine Zz [0,2]<|Zx ?_;refine Zd ?_ ?_<;>intro c14
  .refine Zs ?_;refine ZS #[_,_,_] SB ?_;refine Zq #[_,_,_] ?_;refine Zz [2]<|Zx<|At<|Ad<|Am<|Ad<|Ad<|Am<|Ad ?_;refine AZ (E':=[(2,Pv g2),(3,.bool false),(4,Iv 0)]) (L':=[AC g2 94 #[Iv 0,Nv,Nv]]) ⟨J,J,J,trivial⟩ (Et .nil) ?_;refine E5 (cs:=#[_,_,_]) (.inl J) J J J J NH No ?_;refine⟨[],fun w hw=>hw.sub (A1l _),J,_,_,_,_,_,_,_,false,J,?_⟩;simp only[A2u,false_iff];rintro⟨d',hd',hK,_⟩;rw[<-hEU] at hK;have hpq:p0=q0:=by simpa using c14
   refine hK.2 _ (A1h hEUi) ?_;by_cases hab:JX es e=Le es e
   .unfold srt;simp only;omega
   obtain⟨e1,e2⟩:=hw2 hab;unfold srt;simp only;omega
  refine Ao<|Aa ?_;have hne:p0≠q0:=by simpa using c14
  have hab:JX es e≠Le es e:=fun h=>hne (hw1 h);obtain⟨e1,e2⟩:=hw2 hab;have hpq:(p0,q0)=srt (JX es e) (Le es e):=by unfold srt;rw[e1,e2]
  have hnin:(p0,q0)∉m.map (·.1):=by rw[LG] at k14_1;simpa using k14_1
  refine Ak<|Zm ?_;refine CR [_,_] ?_;refine Zm ?_;refine Zy (Dm (k:=(p0,q0)) 1 J KF J J J J Tryz.underlying191 J)<|Az<|An<|Aa<|Ak ?_;refine Zz [2]<|Az ?_;refine AB ⟨i+1,EA (p0,q0) (.slice (some ad3) p.2.length c3) m⟩ (by dsimp only;omega) ⟨by dsimp only;omega,?_⟩ ⟨J,J,J,J,J,J,J,trivial⟩ (DG _ _);dsimp only;rw[<-hp1];exact hmE.next (by rw[hpq];exact hEUi) hnin hne (A1h hp)
 refine AN<|Ag<|Ag<|Aq<|Aa<|Ai<|Ai ?_;have hie:i=cs.length:=by simp at c10;omega
 subst hie;have hke:m.map (·.1)=EU:=by rw[hmE.keys,<-hEl,A1T]
 have hgood:VL EU:=by
  have h1:=hmE.nd;have h2:=hmE.ne;rw[<-hEl,A1T] at h1 h2;exact⟨h1,h2⟩
 have hml:m.length=EU.length:=by rw[<-hke,A1S]
 have hlk:∀q,(HP m q).isSome=decide (q∈EU):=fun q=>by rw[LG,hke];congr
 have hiff:HA n es↔KP EU (DQ es n) d:=by
  rw[hEU];constructor
  .rintro⟨d',hd',hK⟩;have hne:DQ es n≠[]:=fun e=>by rw[e] at hld;simp at hld
   obtain⟨u,hu⟩:=A2i _ hne;have:d=d':=by rw[<-hd u hu,hd' u hu]
   rw[this];exact hK
  intro h;exact⟨d,hd,h⟩
 refine DC.own (M:=Ej encP gm m::Bf (.slice A' (DQ es n).length c') 3 1 (AA (DQ es n))::(AT 3 cs++[AC g2 94 #[Iv 0,Nv,Nv]])) (fun w hw=>(hw.sub (L':=Ej encP gm m::AC g2 94 #[Iv 0,Nv,Nv]::Bf (.slice A' (DQ es n).length c') 3 1 (AA (DQ es n))::AT 3 cs) ((List.Sublist.refl _).cons _ |>.cons_cons _)).perm (List.Perm.cons _ (A1v (l₁:=Bf (.slice A' (DQ es n).length c') 3 1 (AA (DQ es n))::AT 3 cs) (l₂:=[AC g2 94 #[Iv 0,Nv,Nv]]))))<|Ak ?_;refine Zz [2]<|Zx ?_;refine Zd ?_ ?_<;>intro c18
 .refine Zs<|Zz [2] ?_;refine AU J J (BT en85 J J J (Lc:=Ej encP gm m::Bf (.slice A' (DQ es n).length c') 3 1 (AA (DQ es n))::AT 3 cs) (F:=[AC g2 94 #[Iv 0,Nv,Nv]]) (.refl _) (fun k hk=>hk) (fun w' hw=>KX (hw.sub (L':=Ej encP gm m::Bf (.slice A' (DQ es n).length c') 3 1 (AA (DQ es n))::AT 3 cs) (A1J _ _)).self hmE.row hrows (by omega))) ?_;rintro _ _ ⟨_,⟨rfl,k0,A0,l0,c0,A1,l1,c1,bb,rfl,hbb⟩,rfl⟩;simp only[A1N];refine Zz [3] ?_;refine ZA VN fun g17=>?_;refine Zq #[_,_,_] ?_;refine Za<|Zx<|Zs ?_;refine CR [_,_,_] ?_;refine Zm ?_;refine Zq #[_,_,_] ?_;refine Zz [2]<|Zx<|At<|Ad ?_;refine E5 (cs:=#[_,_,_]) (.inl J) J J J J NH No ?_;refine⟨[],fun w hw=>hw.sub (A1l _),J,_,_,_,_,_,_,_,bb,J,?_⟩;have hd4:d=4:=by simp at c18;omega
  rw[hbb,hiff,hd4];exact kp5 hgood (by omega) hlk hml
 refine Ao<|Aa<|Zs<|Zz [2] ?_;refine AU J J (BT en86 J J J (Lc:=Ej encP gm m::Bf (.slice A' (DQ es n).length c') 3 1 (AA (DQ es n))::AT 3 cs) (F:=[AC g2 94 #[Iv 0,Nv,Nv]]) (.refl _) (fun k hk=>hk) (fun w' hw=>QQ (E:=EU) (hw.sub (L':=Ej encP gm m::Bf (.slice A' (DQ es n).length c') 3 1 (AA (DQ es n))::AT 3 cs) (A1J _ _)).self hmE.row hrows (by omega) hlk)) ?_;rintro vs _ ⟨_,rfl,rfl⟩;have hsl:(CB EU (DQ es n)).length=(DQ es n).length:=(I0 _ _).length_eq;refine Zm ?_;let cb:=Bf vs 3 1 (AA (CB EU (DQ es n)));refine AU J J (BT en85 J J J (Lc:=Ej encP gm m::cb::AT 3 cs) (F:=[AC g2 94 #[Iv 0,Nv,Nv]]) (.refl _) (fun k hk=>hk) (fun w' hw=>KX (hw.sub (L':=Ej encP gm m::cb::AT 3 cs) (A1J _ _)).self hmE.row hrows (by omega))) ?_;rintro _ _ ⟨_,⟨rfl,k0,A0,l0,c0,A1,l1,c1,bb,rfl,hbb⟩,rfl⟩;simp only[A1N];refine Zz [3] ?_;refine ZA VN fun g19=>?_;refine Zq #[_,_,_] ?_;refine Za<|Zx<|Zs ?_;refine CR [_,_,_] ?_;refine Zm ?_;refine Zq #[_,_,_] ?_;refine Zz [2]<|Zx<|At ?_;refine E5 (cs:=#[_,_,_]) (.inl J) J J J J NH No ?_;refine⟨[],fun w hw=>hw.sub (A1l _),J,_,_,_,_,_,_,_,bb,J,?_⟩;have hd3:d=3:=by simp at c18;omega
 rw[hbb,hiff,hd3];exact kp33 hgood (by omega) hlk hml
end
end Go.Fl
namespace Go.Proofs
open Go.Shelf Go.RowKit Go.Lib Go.Sort
def Tryz.sortEdge_ren:Go.Shelf.Ren:=⟨fun|6=>61|15=>105|14=>104|28=>140|29=>141|20=>132|21=>133|22=>134|23=>135|24=>136|25=>137|26=>138|27=>139|46=>165|47=>166|48=>167|49=>168|50=>169|57=>178|n=>n,fun|22=>22|24=>39|25=>83|3=>3|39=>213|0=>0|53=>252|55=>254|4=>4|46=>246|45=>245|50=>180|5=>5|9=>9|66=>267|70=>271|76=>278|77=>113|n=>n,fun n=>n⟩
theorem IW:Go.Proofs.SlLaysF0.n6 A1c Tryz.sortEdge_ren:={
 mixed:=by kernel_rfl
 f6:=⟨"slices.SortFunc[[]tangram/api.Edge,tangram/api.Edge]",by decide,Tryz.func61.trans (congrArg some (by kernel_rfl))⟩
 f14:=⟨"slices.pdqsortCmpFunc[tangram/api.Edge]",by decide,Tryz.func104.trans (congrArg some (by kernel_rfl))⟩
 f15:=Tryz.func105.trans (congrArg some (by kernel_rfl))
 f20:=⟨"slices.insertionSortCmpFunc[tangram/api.Edge]",by decide,Tryz.func132.trans (congrArg some (by kernel_rfl))⟩
 f21:=⟨"slices.heapSortCmpFunc[tangram/api.Edge]",by decide,Tryz.func133.trans (congrArg some (by kernel_rfl))⟩
 f22:=⟨"slices.breakPatternsCmpFunc[tangram/api.Edge]",by decide,Tryz.func134.trans (congrArg some (by kernel_rfl))⟩
 f23:=⟨"slices.choosePivotCmpFunc[tangram/api.Edge]",by decide,Tryz.func135.trans (congrArg some (by kernel_rfl))⟩
 f24:=⟨"slices.reverseRangeCmpFunc[tangram/api.Edge]",by decide,Tryz.func136.trans (congrArg some (by kernel_rfl))⟩
 f25:=⟨"slices.partialInsertionSortCmpFunc[tangram/api.Edge]",by decide,Tryz.func137.trans (congrArg some (by kernel_rfl))⟩
 f26:=⟨"slices.partitionEqualCmpFunc[tangram/api.Edge]",by decide,Tryz.func138.trans (congrArg some (by kernel_rfl))⟩
 f27:=⟨"slices.partitionCmpFunc[tangram/api.Edge]",by decide,Tryz.func139.trans (congrArg some (by kernel_rfl))⟩
 f28:=Tryz.func140.trans (congrArg some (by kernel_rfl))
 f29:=Tryz.func141.trans (congrArg some (by kernel_rfl))
 f46:=⟨"slices.siftDownCmpFunc[tangram/api.Edge]",by decide,Tryz.func165.trans (congrArg some (by kernel_rfl))⟩
 f47:=Tryz.func166.trans (congrArg some (by kernel_rfl))
 f48:=Tryz.func167.trans (congrArg some (by kernel_rfl))
 f49:=⟨"slices.medianAdjacentCmpFunc[tangram/api.Edge]",by decide,Tryz.func168.trans (congrArg some (by kernel_rfl))⟩
 f50:=⟨"slices.medianCmpFunc[tangram/api.Edge]",by decide,Tryz.func169.trans (congrArg some (by kernel_rfl))⟩
 f57:=⟨"slices.order2CmpFunc[tangram/api.Edge]",by decide,Tryz.func178.trans (congrArg some (by kernel_rfl))⟩
 t0:=Tryz.underlying0
 a0:=Tryz.isAgg0
 z0:=Tryz.sizeOf0
 v0:=Tryz.zeroValue0
 t3:=Tryz.underlying3
 a3:=Tryz.isAgg3
 z3:=Tryz.sizeOf3
 v3:=Tryz.zeroValue3
 t4:=Tryz.underlying4
 a4:=Tryz.isAgg4
 z4:=Tryz.sizeOf4
 v4:=Tryz.zeroValue4
 t5:=Tryz.underlying5
 a5:=Tryz.isAgg5
 z5:=Tryz.sizeOf5
 v5:=Tryz.zeroValue5
 t9:=Tryz.underlying9
 a9:=Tryz.isAgg9
 z9:=Tryz.sizeOf9
 v9:=Tryz.zeroValue9
 t22:=A1y
 a22:=Tryz.isAgg22
 z22:=Tryz.sizeOf22
 v22:=Tryz.zeroValue22
 t25:=Tryz.underlying83
 a25:=Tryz.isAgg83
 z25:=Tryz.sizeOf83
 v25:=Tryz.zeroValue83
 t39:=Tryz.underlying213
 a39:=Tryz.isAgg213
 z39:=Tryz.sizeOf213
 v39:=Tryz.zeroValue213
 t45:=Tryz.underlying245
 a45:=Tryz.isAgg245
 z45:=Tryz.sizeOf245
 v45:=Tryz.zeroValue245
 t46:=Tryz.underlying246
 a46:=Tryz.isAgg246
 z46:=Tryz.sizeOf246
 v46:=Tryz.zeroValue246
 t50:=Tryz.underlying180
 a50:=Tryz.isAgg180
 z50:=Tryz.sizeOf180
 v50:=Tryz.zeroValue180
 t53:=Tryz.underlying252
 a53:=Tryz.isAgg252
 z53:=Tryz.sizeOf252
 v53:=Tryz.zeroValue252
 t55:=Tryz.underlying254
 a55:=Tryz.isAgg254
 z55:=Tryz.sizeOf254
 v55:=Tryz.zeroValue254
 t66:=Tryz.underlying267
 a66:=Tryz.isAgg267
 z66:=Tryz.sizeOf267
 v66:=Tryz.zeroValue267
 t70:=Tryz.underlying271
 a70:=Tryz.isAgg271
 z70:=Tryz.sizeOf271
 v70:=Tryz.zeroValue271
 t76:=Tryz.underlying278
 a76:=Tryz.isAgg278
 z76:=Tryz.sizeOf278
 v76:=Tryz.zeroValue278
 t77:=Tryz.underlying113
 a77:=Tryz.isAgg113
 z77:=Tryz.sizeOf113
 v77:=Tryz.zeroValue113 }
def Tryz.cmpInt_ren:Go.Shelf.Ren:=⟨fun|5=>116|7=>149|n=>n,fun|22=>3|3=>3|4=>4|n=>n,fun n=>n⟩
theorem SJ:Go.Proofs.SlLaysC2.n5 A1c Tryz.cmpInt_ren:={
 mixed:=by kernel_rfl
 f5:=⟨"cmp.Compare[int]",by decide,Tryz.func116.trans (congrArg some (by kernel_rfl))⟩
 f7:=⟨"cmp.isNaN[int]",by decide,Tryz.func149.trans (congrArg some (by kernel_rfl))⟩
 t3:=Tryz.underlying3
 a3:=Tryz.isAgg3
 z3:=Tryz.sizeOf3
 v3:=Tryz.zeroValue3
 t4:=Tryz.underlying4
 a4:=Tryz.isAgg4
 z4:=Tryz.sizeOf4
 v4:=Tryz.zeroValue4
 t22:=Tryz.underlying3
 a22:=Tryz.isAgg3
 z22:=Tryz.sizeOf3
 v22:=Tryz.zeroValue3 }
def D9(x:Int×Int):List Value:=[.int .i64 x.1,.int .i64 x.2]
def Ih(a b:Int):Int:=if a=0 then b else a
def DH(x y:Int×Int):Int:=Ih (Lib.compareInt x.1 y.1) (Lib.compareInt x.2 y.2)
end Go.Proofs
namespace Go.Fl
open Go Go.Proofs
section
variable[Lo]
theorem MZ(a b:Int)(w:World):Calls A1c 116 #[Iv a,Iv b] w (Ret w [] fun r L=>L=[]/\r= Iv (Lib.compareInt a b)):=by
 refine(AnyG.cmp_Compare_int SJ a b w).mono ?_;rintro e w' ⟨rfl,rfl⟩;exact⟨_,_,J,⟨J,J⟩,B8 _ _⟩
theorem Yv{g t:Nat}{a b:Int}{w:World}(hg:w.heap[g]? =some (.cells #[Iv a,Iv b] t (0,0))):
  Calls A1c 115 #[Sv g 2] w (Ret w [] fun r L=>L=[]/\r= Iv (Ih a b)):=by
 have h0:w.cell? ⟨g,0,none⟩=some (Iv a):=by rw[cell_of_row w g 0 _ t (0,0) hg];rfl
 have h1:w.cell? ⟨g,1,none⟩=some (Iv b):=by rw[cell_of_row w g 1 _ t (0,0) hg];rfl
 refine cO Tryz.func115 Tryz.ntmps115<|Zs ?_;refine Za<|Zx<|Zs ?_;refine Za<|Zx<|Ai<|Zs ?_;refine Zz [3]<|Zx<|As ?_;refine AS (ι:=Nat) (fun i=>i<=2/\(0<i->a=0)/\(1<i->b=0)) (fun i=>[(3,Iv 0),(6,Sv g 2),(7,Iv 2),(8,Iv i)]) (fun _=>[]) (fun i=>2-i) 0
  ⟨by omega,by omega,by omega⟩ ⟨rfl,rfl,rfl,rfl,trivial⟩ .nil ?_;rintro i ⟨hi,ha,hb⟩;refine Zs<|Zc<|Zx<|Ai ?_;refine Zd ?_ ?_<;>intro c3
 .have hlt:i<2:=by simp at c3;omega
  obtain⟨x,hx,hx0,hx1⟩:∃x:Int,w.cell? ⟨g,i,none⟩=some (Iv x)/\(i=0->x=a)/\(i=1->x=b):=by
   rcases(show i=0\/i=1 by omega) with rfl|rfl
   .exact⟨a,h0,fun _=>rfl,fun h=>by omega⟩
   exact⟨b,h1,fun h=>by omega,fun _=>rfl⟩
  refine Ao<|Aa<|Ai<|As<|Zs ?_;refine Zi (ad':=⟨g,i,none⟩) A1x Bw ?_ (he:=by exact (AX _ _));refine Zu (AG J J CA (A7 hx)) ?_;refine Za<|Zx<|Zs ?_;refine Zz [3]<|Zx ?_;refine Zd ?_ ?_<;>intro c5
  .refine Zs<|Zz [2]<|Zx<|At<|Am<|Ad<|Ad<|Am<|Ad ?_;refine Zh ?_;refine⟨J,?_⟩;have hne:x≠0:=by simpa using c5
   unfold Ih;rcases(show i=0\/i=1 by omega) with h|h
   .rw[hx0 h] at hne ⊢;rw[if_neg hne]
   rw[hx1 h,if_pos (ha (by omega))]
  refine Ao<|An<|Aa<|Ak<|Zz [2]<|Az ?_;refine AB (i+1) (by omega) ⟨by omega,fun _=>?_,fun h=>?_⟩ ⟨J,J,J,J,trivial⟩ .nil
  .have hz:x=0:=by simpa using c5
   by_cases h:i=0
   .rw[<-hx0 h];exact hz
   exact ha (by omega)
  have hz:x=0:=by simpa using c5
  rw[<-hx1 (by omega)];exact hz
 refine AN<|Ag<|Ag<|Aq<|Aa<|Zs<|Zz [2]<|Zx<|At ?_;refine Zh ?_;have hi2:i=2:=by simp at c3;omega
 unfold Ih;rw[if_pos (ha (by omega)),hb (by omega)];exact⟨J,J⟩
theorem RD(x y:Int×Int)(w:World):
  Calls A1c 114 #[.agg #[Iv x.1,Iv x.2],.agg #[Iv y.1,Iv y.2]] w (Ret w [] fun r L=>r= Iv (DH x y)):=by
 refine cO Tryz.func114 Tryz.ntmps114<|Zs ?_;refine ZB fun g2=>?_;refine ZB fun g3=>?_;refine Za<|Zx<|Ai ?_;refine Fv 424101041010 13 ?_;refine Yz [1,1,0] ?_;refine BF.rel0 J J J J (AH en116 J J J (fun w' hw=>MZ _ _ w')) ?_;rintro _ rfl;refine Yz [1,1,0] ?_;refine BF.rel0 J J J J (AH en116 J J J (fun w' hw=>MZ _ _ w')) ?_;rintro _ rfl;refine A8 J J J J (Eo (cs:=#[_,_]) J J A1x Bw C6 J (by decide) (by decide) J J) fun g15=>?_;refine HB (V:=[AC g15 3 #[Iv (Lib.compareInt x.1 y.1),Iv (Lib.compareInt x.2 y.2)],AC g3 39 #[Iv y.1,Iv y.2],AC g2 39 #[Iv x.1,Iv x.2]]) J J J J (by kernel_rfl) (AH en115 J J J (fun w' hw=>Yv (a:=Lib.compareInt x.1 y.1) (b:=Lib.compareInt x.2 y.2) (hw.holds _ (A1m ..)))) ?_;rintro _ rfl;refine Yz [1] ?_;refine AF J ?_;simp only[zq,zr];refine Aa<|At ?_;refine Zh ?_
 rfl
theorem YR{w w':World}{L:List Chunk}(h:AR w [] w' L)(hd:w.drawn<=w'.drawn):∃q os,w'=Sort.grow (w.drewN q) os:=by
 refine⟨w'.drawn-w.drawn,w'.heap.extract w.heap.size w'.heap.size,?_⟩;have hh:w'.heap=w.heap++w'.heap.extract w.heap.size w'.heap.size:=by
  apply A3E;intro i;by_cases hi:i<w.heap.size
  .rw[Array.getElem?_append_left hi];exact h.old i hi (by simp)
  rw[Array.getElem?_append_right (by omega),Array.getElem?_extract];have hs:=h.size;by_cases h2:i<w'.heap.size
  .rw[if_pos (by omega)]
   congr 1;omega
  rw[if_neg (by omega),Array.getElem?_eq_none (by omega)]
 have e:w.drawn+(w'.drawn-w.drawn)=w'.drawn:=by omega
 have e1:=h.os;have e2:=h.tape;have e3:=h.output;clear h hd;cases w' with
 | mk h' t' d' o' u'=>
  cases w with
  | mk h0 t0 d0 o0 u0=>
   simp only[Sort.grow,World.drewN] at *;rw[World.mk.injEq];exact⟨hh,e2,e.symm,e1,e3⟩
theorem RC(hL:¬Lo.p)(x y:Int×Int)(w:World):
  Calls A1c 114 #[.agg #[Iv x.1,Iv x.2],.agg #[Iv y.1,Iv y.2]] w fun e w'=>e= .returned (Iv (DH x y))/\∃q os,w'=Sort.grow (w.drewN q) os:=by
 refine(RD x y w).mono ?_;rintro e w' ⟨v,L,rfl,rfl,hO⟩;exact⟨J,YR hO (hO.drawn.resolve_left hL)⟩
end
end Go.Fl
namespace Go.Fl
open Go Go.Proofs Go.RowKit Go.Lib Go.Sort Go.Shelf
open Classical
theorem J4(x y:Int×Int):ltOf DH x y=decide (Lex x y):=by
 unfold ltOf DH Ih Lib.compareInt Lex;by_cases h1:x.1<y.1
 .simp[h1]
 by_cases h2:y.1<x.1
 .have:¬x.1=y.1:=by omega
  simp[h1,h2,this]
 have:x.1=y.1:=by omega
 by_cases h3:x.2<y.2
 .simp[h1,h2,h3,this]
 by_cases h4:y.2<x.2
 .simp[h1,h2,h3,h4,this]
 simp[h1,h2,h3,h4,this]
theorem ZC:SWO (ltOf DH) where
 irrefl x:=by rw[J4];simp[Lex]
 trans x y z h1 h2:=by
  rw[J4] at *;have h1:=of_decide_eq_true h1;have h2:=of_decide_eq_true h2;refine decide_eq_true ?_;unfold Lex at *;omega
 ntrans x y z h1 h2:=by
  rw[J4] at *;have h1:=of_decide_eq_false h1;have h2:=of_decide_eq_false h2;refine decide_eq_false ?_;unfold Lex at *;omega
theorem Ui(x y:Int×Int)(h1:ltOf DH x y=false)(h2:ltOf DH y x=false):x=y:=by
 rw[J4] at *;have h1:=of_decide_eq_false h1;have h2:=of_decide_eq_false h2;unfold Lex at *;exact Prod.ext (by omega) (by omega)
theorem WV(AC off size:Nat)(w:World):CmpLays A1c 114 #[] D9 2 DH AC off size w:=by
 intro m os dk hdk x y;generalize sortWorldK D9 2 w AC off m dk os=W;exact @RC ⟨False⟩ id x y W
theorem WD(es:List Pr):flatK D9 2 es.toArray=(Cj es).toArray:=by
 apply ext_get!
 .simp
 intro t ht;simp at ht;rw[get_flatK _ _ _ _ (by simpa using ht)];obtain⟨e,he⟩:∃e,es[t / 2]? =some e:=⟨_,A1d (by omega)⟩;have h1:=Pk he;have hd:es.toArray[t / 2]! =e:=by simp[he]
 rw[hd];rcases(show t%2=0\/t%2=1 by omega) with h0|h0
 .have:t / 2*2=t:=by omega
  rw[h0];rw[this] at h1;simp[D9,h1.1]
 have:t / 2*2+1=t:=by omega
 rw[h0];rw[this] at h1;simp[D9,h1.2]
theorem Te{v:Value}{es:List Pr}{w:World}(hO:AR w (AY [Bf v 39 2 (Cj es)]) w [Bf v 39 2 (Cj es)])(hup:es.Pairwise Lex)(hl:es.length<=1000000000):
  Calls A1c 61 #[v,.func (.func 114) #[] #[]] w (Ret w (AY [Bf v 39 2 (Cj es)]) fun r M=>M=[Bf v 39 2 (Cj es)]):=by
 rcases DA hO with⟨rfl,h,_⟩|⟨g,len,cap,sp,rfl,h1,h2,h3,h4,hb⟩
 .refine(AnyF.slices_SortFunc_none { IW with } none 0 (.func (.func 114) #[] #[]) w).mono ?_;rintro e w' ⟨rfl,rfl⟩;exact⟨_,_,J,J,hO⟩
 simp at h1;obtain rfl:es.length=len:=by omega
 have hg:w.heap[g]? =some (.cells (Cj es++sp).toArray 39 (0,0)):=hb.holds _ (A1m ..);have hlt:g<w.heap.size:=(A1t.1 hg).1;have hH:HoldsK D9 2 w g 0 es.toArray:=by
  unfold HoldsK;rw[WD];intro j hj;have hj':j<(Cj es).length:=by simpa using hj
  constructor
  .rw[cell_of_row w g _ _ _ (0,0) hg,A3u,A2d,A1o hj',A1d hj'];simp[A1d hj']
  simp[World.frozen?,hg]
 have hcon:=AnyQ.slices_SortFunc_total IW 2 Tryz.isAgg39 Tryz.sizeOf39 D9 (fun _=>rfl) (fun x v hv=>by simp[D9] at hv;rcases hv with rfl|rfl<;>rfl) DH ZC 114 #[] g 0 cap es.toArray w
  (enters_of Tryz.func114 (by kernel_rfl) J) (WV g 0 es.toArray.size w) hH hlt (by simp;omega) Ui;refine hcon.mono ?_;rintro e w' ⟨rfl,n,os,rfl⟩;let ca:=Bf (.slice (So g) es.length cap) 39 2 (Cj es);refine⟨_,[ca],J,J,?_⟩;have hsorted:(es.toArray.toList.mergeSort fun x y=> !(ltOf DH) y x).toArray=es.toArray:=by
  congr 1
  refine List.mergeSort_of_pairwise ?_;refine hup.imp ?_;intro a b hab;rw[J4];have:decide (Lex b a)=false:=decide_eq_false (by unfold Lex at *;omega);rw[this];rfl
 rw[hsorted];have hself:sortWorldK D9 2 w g 0 n es.toArray os=Sort.grow (w.drewN n) os:=by
  unfold sortWorldK;rw[putRowK_self _ _ _ _ _ _ (holdsK_ahead _ _ _ n _ _ _ hH)]
  rfl
 rw[hself];have:=AR.frame (Lc:=[]) (F:=[ca]) hO (Mq w n os) (fun k hk=>by simp at hk);simpa using this
end Go.Fl
namespace Go.Fl
open Go Go.Proofs
section
theorem Tb{gs gb m i:Nat}{a b:Int}{f:Nat->Bool}{w:World}(hs:w.heap[gs]? =some (.cells #[Sv gb m] 183 (0,0)))(hb:w.heap[gb]? =some (.cells (IV m f).toArray 4 (0,0)))(hi:i<m):
  Calls A1c 82 #[Iv i,.agg #[Iv a,Iv b],Pv gs] w (Ret w [] fun r M=>M=[]/\r= .bool (f i)):=by
 refine cO Tryz.func82 Tryz.ntmps82<|Zs ?_;refine ZB fun g4=>?_;refine Za<|Zx<|Zs ?_;refine Zu (AG J J ag183 (Bh hs J)) ?_;refine Zz [2] ?_;refine Zu (AG J J Um (Bh hb (LP f hi))) ?_;refine Za<|Zx<|At ?_;refine DN 5 ?_;refine Zh ?_;exact⟨J,J⟩
def kp(f:Nat->Bool):Nat->List Pr->List Pr
 | _,[]=>[]
 | k,e::r=>if f k then e::kp f (k+1) r else kp f (k+1) r
theorem YI(f:Nat->Bool):∀(a b:List Pr) (k:Nat),kp f k (a++b)=kp f k a++kp f (k+a.length) b
 | [],b,k=>by simp[kp]
 | e::r,b,k=>by
  simp only[A1K,kp,A2a];rw[YI f r b (k+1),show k+1+r.length=k+(r.length+1) by omega];split<;>simp
theorem TT(f:Nat->Bool):∀(a:List Pr) (k:Nat),(kp f k a).length<=a.length
 | [],k=>by simp[kp]
 | e::r,k=>by
  have:=TT f r (k+1);unfold kp;split<;>simp<;>omega
theorem Va(f:Nat->Bool){es:List Pr}{i:Nat}{e:Pr}(he:es[i]? =some e):kp f 0 (es.take (i+1))=kp f 0 (es.take i)++if f i then[e] else[]:=by
 have hl:=(A1e.1 he).1;rw[A1W,he,YI]
 congr 1
 simp only[A3g,Nat.min_eq_left (Nat.le_of_lt hl),A2d,Option.toList_some,kp]
structure KeI where
 i:Nat
 v:Value
theorem TU{n:Int}{es:List Pr}{va:Value}{gs gb:Nat}{f:Nat->Bool}{w:World}(hg:DX w va es)(hs:w.heap[gs]? =some (.cells #[Sv gb es.length] 183 (0,0)))(hb:w.heap[gb]? =some (.cells (IV es.length f).toArray 4 (0,0)))(hl:es.length<=1000000000):
  Calls A1c 81 #[.agg #[Iv n,va],.func (.func 82) #[] #[Pv gs]] w (Ret w [] fun r M=>M=[Bf r 39 2 (Cj (kp f 0 es))]):=by
 obtain⟨A,cap,rfl,hr,hlc,hcm,hle⟩:=hg;refine cO Tryz.func81 Tryz.ntmps81<|Zs ?_;refine ZB fun g2=>?_;refine Za<|Zx<|Zs ?_;refine Za<|Zx<|Ai<|Zs ?_;refine Zz [1,2]<|Zx<|As ?_;refine DC.own (fun w hw=>Ck (t:=39) (m:=2) hw) ?_;refine AS (ι:=KeI) (fun j=>j.i<=es.length)
  (fun j=>[(1,.func (.func 82) #[] #[Pv gs]),(5,j.v),(9,.slice A es.length cap),(10,Iv es.length),(11,Iv j.i)])
  (fun j=>[Bf j.v 39 2 (Cj (kp f 0 (es.take j.i)))]) (fun j=>es.length-j.i) ⟨0,Nv⟩ (A1E _) ⟨J,J,J,J,J,trivial⟩ (Bg .nil) ?_;rintro⟨i,v⟩ hi;dsimp only at hi ⊢;refine Zs<|Zc<|Zx<|Ai ?_;refine Zd ?_ ?_<;>intro c3
 .have hlt:i<es.length:=by simpa using c3
  obtain⟨e,he⟩:∃e,es[i]? =some e:=⟨_,A1d hlt⟩;obtain⟨ad,rfl,hU,hVe⟩:=hr.pair he;have hkl:=TT f (es.take i) 0;rw[A3g] at hkl;refine Ao<|Aa<|Ai<|As<|Zs<|Zm ?_;refine Zo (Bz J J J A1y CF (by omega) (by omega) (by first|exact AX _ _|exact Cm _ _ _|rfl)) ?_;refine Zu (A4 (vs:=[_,_]) J J Hw CF J (Fm hU hVe (by simp))) ?_;refine ZA Fs fun g7=>?_;refine Za ?_;refine Zq #[_,_]<|Zx<|Zs ?_;refine Zz [2] ?_;refine CR [_,_] ?_;refine AL J J (AH en82 J J J (fun w' hw=>Tb (F2 hw hs (by simp)) (F2 hw hb (by simp)) hlt)) ?_;rintro _ rfl;refine Zx ?_;refine Zd ?_ ?_<;>intro c5
  .refine Ak<|Zm ?_;refine CR [_,_] ?_;refine ZL #[_,_] A1y CF Fs fun g22=>?_;refine AU J J (Bt J J J A1y CF ZM Fs J (by decide) (by decide) (PK (CY .nil)) (.inl ⟨_,_,J,AW J⟩) J (Lz [e]) (by simp;omega)) ?_;rintro v23 _ rfl;refine Za<|Az<|An<|Aa<|Ak ?_;refine Zz [2]<|Az ?_;refine AB ⟨i+1,v23⟩ (by dsimp only;omega) (by dsimp only;omega) ⟨J,J,J,J,J,trivial⟩ (.cons' 0 J (by dsimp only;rw[Va f he,if_pos c5,Dc]) .nil)
  refine Ao<|An<|Aa<|Ak<|Zz [2]<|Az ?_;refine AB ⟨i+1,v⟩ (by dsimp only;omega) (by dsimp only;omega) ⟨J,J,J,J,J,trivial⟩ (.cons' 1 J (by dsimp only;rw[Va f he,if_neg (by rw[c5];simp),A1O]) .nil)
 refine AN<|Ag<|Ag<|Aq<|Aa<|Zs<|Zz [2]<|Zx<|At ?_;have hie:i=es.length:=by simp at c3;omega
 subst hie;rw[A1T];refine AZ (E':=[(4,_)]) (L':=[Bf v 39 2 (Cj (kp f 0 es))]) ⟨J,trivial⟩ (Bg .nil) ?_;refine Zh ?_
 rfl
structure MdI where
 i:Nat
 v:Value
theorem TJ{n:Int}{es:List Pr}{va:Value}{w:World}(hg:DX w va es)(hup:es.Pairwise Lex)(hlt:∀e,e∈es->e.1<e.2)(hl:es.length<=1000000000):
  Calls A1c 80 #[Iv n,va] w (Ret w [] fun r M=>∃A l c,r= .agg #[Iv n,.slice A l c]/\M=[Bf (.slice A l c) 39 2 (Cj es)]):=by
 obtain⟨A,cap,rfl,hr,hlc,hcm,hle⟩:=hg;refine cO Tryz.func80 Tryz.ntmps80<|Zs ?_;refine ZA SX fun g4=>Zx<|Zs ?_;refine Zz [2] ?_;refine Zw (PD (l:=0) (k:=es.length) J J J A1y CF ZM Fs J (by omega) (by omega) (by omega) (by omega) J) fun g10=>?_;refine Za<|Zx<|Ai<|Zs ?_;refine Zz [3]<|Zx<|As ?_;let ca:=AC g4 24 #[Iv 0,Nv];refine DC.own (M:=Bf (.slice (So g10) 0 es.length) 39 2 []::[ca]) (fun w hw=>Ca (vs:=[]) (m:=2) (len:=0) (cap:=es.length) J (by decide) (by omega) (by omega) (by simp[madeCells]) J hw) ?_;refine AS (ι:=MdI) (fun j=>j.i<=es.length)
  (fun j=>[(0,Iv n),(4,Pv g4),(5,j.v),(11,.slice A es.length cap),(12,Iv es.length),(13,Iv j.i)])
  (fun j=>Bf j.v 39 2 (Cj (es.take j.i))::[ca]) (fun j=>es.length-j.i) ⟨0,_⟩ (A1E _) ⟨J,J,J,J,J,J,trivial⟩ (Bg (Bg .nil)) ?_;rintro⟨i,v⟩ hi;dsimp only at hi ⊢;refine Zs<|Zc<|Zx<|Ai ?_;refine Zd ?_ ?_<;>intro c3
 .have hil:i<es.length:=by simpa using c3
  obtain⟨e,he⟩:∃e,es[i]? =some e:=⟨_,A1d hil⟩;obtain⟨ad,rfl,hU,hVe⟩:=hr.pair he;have hee:=hlt e (A1h he);have hmin:min e.1 e.2=e.1:=by omega
  have hmax:max e.1 e.2=e.2:=by omega
  refine Ao<|Aa<|Ai<|As<|Zs ?_;refine Zo (Bz J J J A1y CF (by omega) (by omega) (by first|exact AX _ _|exact Cm _ _ _|rfl)) ?_;refine Zu (A4 (vs:=[_,_]) J J Hw CF J (Fm hU hVe (by simp))) ?_;refine ZA Fs fun g7=>?_;refine Zq #[_,_]<|Zx<|Ak ?_;refine Zz [2,1,0] ?_;refine Zo (Ob J J J) ?_;refine Zz [1,1,0] ?_;refine Zo (Rk J J J) ?_;refine ZS #[_,_] P3 ?_;refine ZL #[_,_] A1y CF Fs fun g29=>?_;refine AU J J (Bt J J J A1y CF ZM Fs J (by decide) (by decide) (F:=[ca]) (PK (CY (CY .nil))) (.inl ⟨_,_,J,AW J⟩) J (Lz [(min e.1 e.2,max e.1 e.2)]) (by simp;omega)) ?_;rintro v30 _ rfl;refine Za<|Az<|An<|Aa<|Ak ?_;refine Zz [2]<|Az ?_;refine AB ⟨i+1,v30⟩ (by dsimp only;omega) (by dsimp only;omega) ⟨J,J,J,J,J,J,trivial⟩ (.cons' 0 J (by dsimp only;rw[A1W,he,Dc,hmin,hmax];rfl) (Bg .nil))
 refine AN<|Ag<|Ag<|Aq<|Aa<|Ai ?_;have hie:i=es.length:=by simp at c3;omega
 subst hie;rw[A1T];refine Ak<|Zm ?_;refine AU J J (BT en61 J J J (Lc:=[Bf v 39 2 (Cj es)]) (F:=[ca]) (.refl _) (fun k hk=>hk) (fun w' hw=>Te (hw.sub (L':=[Bf v 39 2 (Cj es)]) ((A1l _).cons_cons _)).self hup hl)) ?_;rintro v33 _ ⟨_,rfl,rfl⟩;simp only[zs];refine Zx<|Ai ?_;refine DC.shape (t:=39) (m:=2) (vs:=Cj es) 0 J ?_;rintro⟨Av,lv,cv,rfl⟩;refine Ak<|Zz [2] ?_;refine ZS #[_,_] Ul ?_;refine Zq #[_,_]<|Zx<|At ?_;refine Co (cs:=#[_,_]) (.inl J) J J IL G2 ?_;exact⟨[Bf (.slice Av lv cv) 39 2 (Cj es)],fun w hw=>hw.pick (Bg .nil),_,_,_,J,J⟩
open Classical in
theorem YH{f:Nat->Bool}:∀{es:List Pr} {k:Nat} {e:Pr},e∈kp f k es↔∃i,es[i]? =some e/\f (k+i)=true
 | [],k,e=>by simp[kp]
 | x::r,k,e=>by
  have ih:=YH (f:=f) (es:=r) (k:=k+1) (e:=e);unfold kp;constructor
  .intro h;split at h
   .rename_i hf;rcases A1H.1 h with rfl|h
    .exact⟨0,J,hf⟩
    obtain⟨i,hi,hfi⟩:=ih.1 h;exact⟨i+1,by simpa using hi,by rw[<-hfi];congr 1;omega⟩
   obtain⟨i,hi,hfi⟩:=ih.1 h;exact⟨i+1,by simpa using hi,by rw[<-hfi];congr 1;omega⟩
  rintro⟨i,hi,hfi⟩
  match i with
  | 0=>
   simp at hi;subst hi;rw[A2x] at hfi;rw[if_pos hfi];simp
  | i+1=>
   have:=ih.2 ⟨i,by simpa using hi,by rw[<-hfi];congr 1;omega⟩;split
   .exact A1q _ this
   exact this
theorem TR(f:Nat->Bool):∀(es:List Pr) (k:Nat),(kp f k es).Sublist es
 | [],k=>by simp[kp]
 | x::r,k=>by
  have:=TR f r (k+1);unfold kp;split
  .exact this.cons_cons x
  exact this.cons x
theorem GY{N:Int}{es:List Pr}(hV:BX N es):es.Pairwise Lex:=by
 rw[A2t];intro i j hi hj hij;exact PH hV hij (A1d hi) (A1d hj)
open Classical in
noncomputable def VX(ks:List Int)(i:Nat):Nat->Bool:=fun x=>decide ((x:Int)∈ks.take i)
theorem W3{n:Nat}{es:List Pr}{ks:List Int}{va vk:Value}{w:World}(hg:DX w va es)(hV:BX n es)(hk:FD w vk ks)(hin:∀k,k∈ks->0<=k/\k<es.length):
  Calls A1c 34 #[.agg #[Iv n,va],vk] w (Ret w [] fun r M=>∃Av l c,r= .tuple #[.agg #[Iv n,.slice Av l c],Iv 0]/\M=[Bf (.slice Av l c) 39 2 (Cj (kp (VX ks ks.length) 0 es))]):=by
 have hg0:=hg;have hfew:=hV.few;obtain⟨A,cap,rfl,hr,hlc,hcm,hle⟩:=hg;obtain⟨B,capb,rfl,hrb,hlb,hcb,hleb⟩:=hk;refine cO Tryz.func34 Tryz.ntmps34<|Zs ?_;refine ZB fun g2=>?_;refine ZA SX fun g4=>?_;refine Za<|Zx<|Ai<|Zs ?_;refine CR [_,_] ?_;refine AL J J (AH PV J J J (fun w' hw=>Ez (hg0.keep0 hw))) ?_;rintro _ ⟨b,rfl,hb⟩;refine Zz [1]<|Zx ?_;refine Zd ?_ ?_<;>intro c1
 .refine Zs ?_;refine ZS #[_,_] Ul ?_;refine Zq #[_,_] ?_;refine Za<|Zx<|At<|Ad ?_;refine DI (cs:=#[_,_]) (.inl J) J J J IL G2 ?_;rw[hb.2 hV] at c1;simp at c1
 refine Ao<|Aa<|Zs<|Zz [1,1] ?_;refine Zw (B6 (k:=es.length) J J J Tryz.underlying183 sz4 by4 ze4 J (by omega) (by omega) (JL _)) fun g16=>?_;refine ZA ze183 fun g6=>?_;refine Jj #[_]<|Zx<|Ai<|Zs ?_;refine Zz [3]<|Zx<|As ?_;let ca:=AC g6 183 #[Sv g16 es.length];let cb:=AC g4 24 #[Iv 0,Nv];let cc:=AC g2 24 #[Iv n,.slice A es.length cap];refine AS (ι:=Nat) (fun i=>i<=ks.length)
  (fun i=>[(2,Pv g2),(4,Pv g4),(6,Pv g6),(17,.slice B ks.length capb),(18,Iv ks.length),(19,Iv i)])
  (fun i=>[ca,AC g16 4 (IV es.length (VX ks i)).toArray,cb,cc]) (fun i=>ks.length-i) 0 (A1E _) ⟨J,J,J,J,J,J,trivial⟩
  (Bg (.cons' 0 rfl (by rw[show VX ks 0=fun _=>false from funext fun x=>by simp[VX]]) (Bg (Bg .nil)))) ?_;rintro i hi;refine Zs<|Zc<|Zx<|Ai ?_;refine Zd ?_ ?_<;>intro c5
 .have hlt:i<ks.length:=by simpa using c5
  obtain⟨k,hk⟩:∃k,ks[i]? =some k:=⟨_,A1d hlt⟩;obtain⟨adb,rfl,hck⟩:=hrb.int hk;obtain⟨hk0,hk1⟩:=hin k (A1h hk);refine Ao<|Aa<|Ai<|As<|Zs ?_;refine Zj (adb.add i) ?_;refine Zu (AG J J CA (A7 hck)) ?_;refine Za<|Zx<|Ai<|Zs ?_;refine Zz [3] ?_;refine AM 25 J (fun k7_2=>?_) (fun k7_2=>?_)
  .refine Zz [5]<|Zx ?_;refine Bn J<|Zs ?_;refine ZS #[_,_] Ul ?_;refine Zq #[_,_] ?_;refine Za<|Zx<|At<|Ad<|Am<|Ad<|Ad<|Am<|Ad ?_;refine DI (cs:=#[_,_]) (.inl J) J J J IL G2 ?_
   first
   | (simp at k7_2;omega)
   | (simp at c7;omega)
  refine Zz [1,3]<|Zx ?_;refine Zd ?_ ?_<;>intro c7
  .refine Zs ?_;refine ZS #[_,_] Ul ?_;refine Zq #[_,_] ?_;refine Za<|Zx<|At<|Ad<|Am<|Ad<|Ad<|Am<|Ad ?_;refine DI (cs:=#[_,_]) (.inl J) J J J IL G2 ?_
   first
   | (simp at k7_2;omega)
   | (simp at c7;omega)
  refine Ao<|Aa<|Ak<|Zz [0,2] ?_;refine Zy (AP (cs':=(IV es.length (VX ks (i+1))).toArray) J J J sz4 J (by simp;omega) (by
   rw[LO]
   congr 1
   unfold IV;apply A2I;intro x hx;have hx:=A1r.1 hx
   congr 1
   unfold Ki VX;rw[A1W,hk];by_cases h:x=k.toNat
   .rw[if_pos h];exact(decide_eq_true (by rw[A1C];right;simp;omega)).symm
   rw[if_neg h];have:¬(x:Int)=k:=by omega
   simp[this])) ?_;refine Az<|An<|Aa<|Ak<|Zz [2]<|Az ?_;refine AB (i+1) (by omega) (by omega) ⟨J,J,J,J,J,J,trivial⟩ (Ay _)
 refine AN<|Ag<|Ag<|Aq<|Aa<|Ai ?_;have hie:i=ks.length:=by simp at c5;omega
 subst hie;have hkl:=TT (VX ks ks.length) es 0;have hsub:=TR (VX ks ks.length) es 0;refine Fv 3440110 8 ?_;refine Yz [1,0] ?_;refine Bp J J J J (A4 (vs:=[_,_]) J J IL G2 J (AW J)) ?_;refine Yo J (Fu J J J) ?_;refine CQ J J J J (AH en81 J J J (fun w' hw=>TU (hg0.keep0 hw) (hw.holds _ (A1m ..)) (hw.holds _ (A1q _ (A1m ..))) (by omega))) ?_;rintro v40 _ rfl;let cd:=Bf v40 39 2 (Cj (kp (VX ks ks.length) 0 es));let ce:=AC g16 4 (IV es.length (VX ks ks.length)).toArray;refine IF (V:=(cd::[ca,ce,cb,cc])) J J J J (by kernel_rfl) (AH en80 J J J (fun w' hw=>TJ (FG hw 0 J (by omega)) ((GY hV).sublist hsub) (fun e he=>by
  obtain⟨j,hj⟩:=A1j.1 (hsub.subset he);exact(hV.ok j e hj).lt) (by omega))) ?_;rintro _ _ ⟨Av,l,c,rfl,rfl⟩;let cf:=Bf (.slice Av l c) 39 2 (Cj (kp (VX ks ks.length) 0 es));refine BF.sto (V:=(cf::cd::[ca,ce,cb,cc])) J J J J J (B3 (cs':=#[_,_]) J J J G2 J (A1f J) J) PN ?_;refine Yz [1] ?_;refine AF J ?_;simp only[zq,zr];refine Aa<|At ?_;refine DI (cs:=#[_,_]) (.inl J) J J J IL G2 ?_;exact⟨[cf],fun w hw=>hw.pick (Bg .nil),Av,l,c,J,J⟩
theorem U9:∀{a b:List Pr},a.Pairwise Lex->b.Pairwise Lex->(∀x,x∈a↔x∈b)->a=b
 | [],[],_,_,_=>rfl
 | [],y::r,_,_,h=>by have:=(h y).2 (by simp);cases this
 | x::r,[],_,_,h=>by have:=(h x).1 (by simp);cases this
 | x::r,y::s,ha,hb,h=>by
  have irr:∀z:Pr,¬Lex z z:=fun z hz=>by unfold Lex at hz;omega
  have tr:∀{u v w:Pr},Lex u v->Lex v w->Lex u w:=fun h1 h2=>by unfold Lex at *;omega
  rw[A2C] at ha hb;have hxy:x=y:=by
   rcases A1H.1 ((h x).1 (by simp)) with h1|h1
   .exact h1
   rcases A1H.1 ((h y).2 (by simp)) with h2|h2
   .exact h2.symm
   exact absurd (tr (hb.1 x h1) (ha.1 y h2)) (irr y)
  subst hxy
  congr 1
  refine U9 ha.2 hb.2 fun z=>?_;constructor
  .intro hz;rcases A1H.1 ((h z).1 (by simp[hz])) with h1|h1
   .subst h1;exact absurd (ha.1 z hz) (irr z)
   exact h1
  intro hz;rcases A1H.1 ((h z).2 (by simp[hz])) with h1|h1
  .subst h1;exact absurd (hb.1 z hz) (irr z)
  exact h1
theorem OV{n:Int}{es cs:List Pr}(hV:BX n es)(hc:FK cs)(hin:∀c,c∈cs->c∈es):BX n cs:=
 ⟨hV.lo,hV.hi,hc.few,fun i e he=>by
  obtain⟨j,hj⟩:=A1j.1 (hin e (A1h he));exact hV.ok j e hj,hc.up⟩
theorem sub_is{n:Int}{es cs:List Pr}{ns:List Int}(hV:BX n es)(hc:FK cs)(hin:∀c,c∈cs->c∈es)(hn:NumR es cs ns):kp (VX ns ns.length) 0 es=cs:=by
 refine U9 ((GY hV).sublist (TR _ _ _)) (GY (OV hV hc hin)) fun e=>?_;rw[YH];unfold VX;rw[A1T];constructor
 .rintro⟨i,hi,hfi⟩;have hm:(i:Int)∈ns:=by simpa using hfi
  obtain⟨j,hj⟩:=A1j.1 hm;obtain⟨c,hcj⟩:∃c,cs[j]? =some c:=⟨_,A1d (by rw[<-hn.1];exact(A1e.1 hj).1)⟩;rcases hn.2 j c _ hcj hj with⟨h1,_⟩|⟨i',h1,h2⟩
  .omega
  have:i'=i:=by omega
  subst this;rw[hi] at h2;cases h2;exact A1h hcj
 intro he;obtain⟨j,hj⟩:=A1j.1 he;obtain⟨m,hm⟩:∃m,ns[j]? =some m:=⟨_,A1d (by rw[hn.1];exact(A1e.1 hj).1)⟩;rcases hn.2 j e m hj hm with⟨_,h1⟩|⟨i,h1,h2⟩
 .exact absurd (hin e he) h1
 subst h1;exact⟨i,h2,by simpa using A1h hm⟩
theorem Pm{pl:Bool}{n:Nat}{es cs:List Pr}{va v u:Value}{w:World}(hg:DX w va es)(hu:DX w u cs)(hV:BX n es)(hc:FK cs)(hin:∀c,c∈cs->c∈es):
  Calls A1c 21 #[.agg #[Iv n,va],.agg #[.bool pl,v,u]] w (Ret w [] fun r M=>M=[]/\∃b,r= .bool b/\(b=true↔HA n cs)):=by
 have hVc:=OV hV hc hin;have hfew:=hVc.few;have hfe:=hV.few;refine cO Tryz.func21 Tryz.ntmps21<|Zs ?_;refine ZB fun g2=>?_;refine ZB fun g3=>?_;refine Za<|Zx<|Ai ?_;refine Fv 3200044111 11 ?_;refine Bp J J J J (A4 (vs:=[_,_]) J J IL G2 J (AW J)) ?_;refine Bp J J J J (A4 (vs:=[_,_]) J J IL G2 J (AW J)) ?_;refine Bp J J J J (A4 (vs:=[_,_,_]) J J ag27 XG J (AW J)) ?_;refine CQ J J J J (AH en33 J J J (fun w' hw=>H5 (hg.keep0 hw) (hu.keep0 hw))) ?_;rintro _ _ ⟨gn,ns,rfl,hn,rfl⟩;refine IF (V:=(AC gn 3 (AA ns).toArray::[AC g3 27 #[.bool pl,v,u],AC g2 24 #[Iv n,va]])) J J J J (by kernel_rfl) (AH en34 J J J (fun w' hw=>W3 (hg.keep0 hw) hV (DZ hw (by simp) hn.1 (by omega)) (fun k hk=>by
  obtain⟨j,hj⟩:=A1j.1 hk;obtain⟨c,hcj⟩:∃c,cs[j]? =some c:=⟨_,A1d (by rw[<-hn.1];exact(A1e.1 hj).1)⟩;rcases hn.2 j c _ hcj hj with⟨_,h1⟩|⟨i,h1,h2⟩
  .exact absurd (hin c (A1h hcj)) h1
  have:=(A1e.1 h2).1;omega))) ?_;rintro _ _ ⟨Av,l,c,rfl,rfl⟩;rw[sub_is hV hc hin hn];refine Yz [3] ?_;refine A8 J J J J (DL J SX J) fun g5=>?_;refine BF.sto (V:=(AC g5 24 #[Iv 0,Nv]::Bf (.slice Av l c) 39 2 (Cj cs)::AC gn 3 (AA ns).toArray::[AC g3 27 #[.bool pl,v,u],AC g2 24 #[Iv n,va]])) J J J J J (B3 (cs':=#[_,_]) J J J G2 J (A1f J) J) PN ?_;refine Yz [1] ?_;refine AF J ?_;simp only[zq,zr];refine Aa<|Ai<|Zs<|Zz [2]<|Zx ?_;refine Zd ?_ ?_<;>intro c2
 .refine Zs<|Za<|Zx<|At<|Ad ?_;refine Zh ?_;simp at c2
 refine Ao<|Aa<|Zs ?_;refine CR [_,_] ?_;refine AL J J (AH en35 J J J (fun w' hw=>Lj (FG hw 1 J (by omega)) hVc)) ?_;rintro _ ⟨k0,A0,l0,c0,A1,l1,c1,b,rfl,hb⟩;refine Zz [4] ?_;refine ZA VN fun g7=>?_;refine Zq #[_,_,_] ?_;refine Zz [2]<|Zx<|Zs ?_;refine Zz [2]<|Zx<|At ?_;refine DN 4 ?_;refine Zh ?_;exact⟨J,b,J,hb⟩
open Classical
/-! ### a rotation is flat or not, whatever way it was found -/
theorem N3{N:Int}{es:List Pr}{ls rs rs':List (List Int)}(hV:BX N es)(h:Nc es ls rs)(h':Nc es ls rs'):rs=rs':=by
 apply A2z;intro v;by_cases hv:v<ls.length
 .obtain⟨l,hl⟩:∃l,ls[v]? =some l:=⟨_,A1d hv⟩;obtain⟨r,hr⟩:∃r,rs[v]? =some r:=⟨_,A1d (by rw[h.1];exact hv)⟩;obtain⟨r',hr'⟩:∃r,rs'[v]? =some r:=⟨_,A1d (by rw[h'.1];exact hv)⟩;rw[hr,hr']
  congr 1
  obtain⟨q1,q2⟩:=h.2 v l r hl hr;obtain⟨q3,q4⟩:=h'.2 v l r' hl hr';apply A2z;intro j;by_cases hj:j<l.length
  .obtain⟨u,hu⟩:∃u,l[j]? =some u:=⟨_,A1d hj⟩;obtain⟨x,hx⟩:∃x,r[j]? =some x:=⟨_,A1d (by omega)⟩;obtain⟨y,hy⟩:∃y,r'[j]? =some y:=⟨_,A1d (by omega)⟩;rw[hx,hy,(q2 j u x hu hx).uniq hV (q4 j u y hu hy)]
  rw[A1u (by omega),A1u (by omega)]
 rw[A1u (by rw[h.1];omega),A1u (by rw[h'.1];omega)]
theorem A0W{n:Nat}{es:List Pr}{rs:List (List Int)}{f g:Nat->Int}(hok:CO n es rs)(hf:Dj rs rs.length f)(hg:Dj rs rs.length g){h:Nat}(hh:h<es.length*2):f h=g h:=by
 obtain⟨v,l,i,hl,hi,_⟩:=G6 hok hh;have h1:=(GH hok hf hl hi).1;have h2:=(GH hok hg hl hi).1;rw[h1] at h2;exact Option.some.inj h2
theorem Ua{n:Nat}{es:List Pr}{rs:List (List Int)}{f g:Nat->Int}(hok:CO n es rs)(hf:Dj rs rs.length f)(hg:Dj rs rs.length g):EH es f=EH es g:=by
 have hp:=(Iu hok hf).1;have htw:∀h,h<es.length*2->twn h<es.length*2:=fun h hh=>by unfold twn;split<;>omega
 have hit:∀h,h<es.length*2->∀k,De (CM f) k h=De (CM g) k h:=by
  intro h hh k
  induction k with
  | zero=>rfl
  | succ k ih=>
   have h1:=Fx hp hh k;show CM f (De (CM f) k h)=CM g (De (CM g) k h);rw[<-ih];show(f (twn (De (CM f) k h))).toNat=(g (twn (De (CM f) k h))).toNat;rw[A0W hok hf hg (htw _ h1)]
 unfold EH D6
 congr 2
 apply List.filter_congr;intro x hx;have hx:=A1r.1 hx;unfold Cc;simp only[hit x hx]
theorem MP{n:Nat}{es:List Pr}{rs:List (List Int)}{f g:Nat->Int}(hok:CO n es rs)(hf:Dj rs rs.length f)(hg:Dj rs rs.length g):DJ n es f=DJ n es g:=by
 unfold DJ;rw[Ua hok hf hg]
def GS(n:Nat)(es:List Pr)(ls:List (List Int)):Prop:=∃rs fn,Nc es ls rs/\Dj rs rs.length fn/\DJ n es fn=0
theorem WA{n:Nat}{es:List Pr}{ls:List (List Int)}{b:Prop}(hok:DD n es ls)(h:FlatR n es ls b):b↔GS n es ls:=by
 obtain⟨rs,fn,h1,h2,h3⟩:=h;rw[h3];constructor
 .intro hb;exact⟨rs,fn,h1,h2,hb⟩
 rintro⟨rs',fn',k1,k2,k3⟩;have:=N3 hok.1 h1 k1;subst this;rw[MP (JC hok h1) h2 k2];exact k3
noncomputable def Ie(N:Int)(es:List Pr)(pl:Bool)(ls:List (List Int))(cs:List Pr):Int:=
 if ¬BX N es then 1
 else if ¬FA pl ls cs then 181
 else if pl then(if ¬DD N es ls then 182 else if ¬GS N.toNat es ls then 183 else 0)
 else(if ¬(∀c,c∈cs->c∈es) then 184 else if ¬HA N.toNat cs then 185 else 0)
theorem O5{N:Int}{es:List Pr}{va c:Value}{w:World}{p v u:Value}(hg:DX w va es)(hc:c= .agg #[p,v,u])(h1:p.oneCell'=true)(h2:v.oneCell'=true)(h3:u.oneCell'=true):
  Calls A1c 15 #[.agg #[Iv N,va],c] w (Ret w [] fun r M=>M=[]/\∃b,r= .bool b/\(b=true↔BX N es)):=by
 subst hc;refine cO Tryz.func15 Tryz.ntmps15<|Zs ?_;refine ZB fun g2=>?_;refine Zw (HE J J (ZI h1 h2 h3)) fun g3=>?_;refine Za<|Zx<|Zs ?_;refine CR [_,_] ?_;refine AL J J (AH PV J J J (fun w' hw=>Ez (hg.keep0 hw))) ?_;rintro _ ⟨b,rfl,hb⟩;refine Za<|Zx<|At ?_;refine DN 4 ?_;refine Zh ?_;exact⟨J,b,J,hb⟩
def A0m(f:Nat):Value:=.func (.func f) #[] #[]
def XM:Array Value:=#[Iv 0,A0m 15,Iv 1,Iv 0,A0m 17,Iv 181,Iv 1,A0m 18,Iv 182,Iv 1,A0m 19,Iv 183,Iv (-1),A0m 20,Iv 184,Iv (-1),A0m 21,Iv 185]
theorem QN(w:World):Calls A1c 11 #[] w (Ret w [] fun r M=>∃g,r= Sv g 6/\M=[AC g 46 XM]):=by
 refine cO Tryz.func11 Tryz.ntmps11<|Zs ?_;refine Za<|Zx<|Zs ?_;refine ZS #[_,_,_] WY ?_;refine ZS #[_,_,_] WY ?_;refine ZS #[_,_,_] WY ?_;refine ZS #[_,_,_] WY ?_;refine ZS #[_,_,_] WY ?_;refine ZS #[_,_,_] WY ?_;refine ZL #[_,_,_,_,_,_,_,_,_,_,_,_,_,_,_,_,_,_] Tryz.underlying42 sz46 ze46 fun g7=>?_;refine Za<|Zx<|At ?_;refine AZ (E':=[(0,_)]) ⟨J,trivial⟩ (Ay _) ?_;refine Zh ?_;exact⟨g7,J,J⟩
end
section
open Classical
def U1:Nat->Int
 | 0=>0
 | 1=>0
 | 2=>1
 | 3=>1
 | _=> -1
def fnS:Nat->Nat
 | 0=>15
 | 1=>17
 | 2=>18
 | 3=>19
 | 4=>20
 | _=>21
def ZW:Nat->Int
 | 0=>1
 | 1=>181
 | 2=>182
 | 3=>183
 | 4=>184
 | _=>185
theorem VW{i:Nat}(hi:i<6):(XM.toList.drop (i*3)).take [Value.int .i64 (U1 i),A0m (fnS i),Iv (ZW i)].length=[Iv (U1 i),A0m (fnS i),Iv (ZW i)]:=by
 rcases(show i=0\/i=1\/i=2\/i=3\/i=4\/i=5 by omega) with rfl|rfl|rfl|rfl|rfl|rfl<;>rfl
theorem Vk{i:Nat}(hi:i<6):BY A1c (fnS i):=by
 rcases(show i=0\/i=1\/i=2\/i=3\/i=4\/i=5 by omega) with rfl|rfl|rfl|rfl|rfl|rfl
 .exact en15
 .exact en17
 .exact en18
 .exact en19
 .exact en20
 exact en21
def PS(N:Int)(es:List Pr)(pl:Bool)(ls:List (List Int))(cs:List Pr):Nat->Prop
 | 0=>BX N es
 | 1=>FA pl ls cs
 | 2=>DD N es ls
 | 3=>GS N.toNat es ls
 | 4=>∀c,c∈cs->c∈es
 | _=>HA N.toNat cs
def ME(pl:Bool):Int:=if pl then 1 else -1
def SV(pl:Bool)(i:Nat):Prop:=U1 i=0\/U1 i=ME pl
theorem L4{N:Int}{pl:Bool}{es cs:List Pr}{ls:List (List Int)}{va v u:Value}{w:World}(hg:DX w va es)(hv:IM w v ls)(hu:DX w u cs)(hp:Qh w)(hs:∀l,l∈ls->l.length<=33554432)
 {i:Nat}(hi:i<6)(ha:SV pl i)(hall:∀j,j<i->SV pl j->PS N es pl ls cs j):
  Calls A1c (fnS i) #[.agg #[Iv N,va],.agg #[.bool pl,v,u]] w (Ret w [] fun r M=>M=[]/\∃b,r= .bool b/\(b=true↔PS N es pl ls cs i)):=by
 have hv1:v.oneCell'=true:=by obtain⟨A,c,rfl,_⟩:=hv;rfl
 have hu1:u.oneCell'=true:=by obtain⟨A,c,rfl,_⟩:=hu;rfl
 have h0:0<i->BX N es:=fun h=>hall 0 h (.inl rfl);have hnat:0<i->((N.toNat:Nat):Int)=N:=fun h=>by have:=(h0 h).lo;omega
 have h1:1<i->FA pl ls cs:=fun h=>hall 1 h (.inl rfl);have hedges:1<i->pl=false->FK cs:=fun h hpl=>by
  have:=(h1 h).1;rw[hpl] at this;exact this.2
 rcases(show i=0\/i=1\/i=2\/i=3\/i=4\/i=5 by omega) with rfl|rfl|rfl|rfl|rfl|rfl
 .exact O5 hg J J hv1 hu1
 .exact RB hv hu hp hs
 .exact QG hg hv
 .have hpl:pl=true:=by
   rcases ha with h|h
   .simp[U1] at h
   cases pl
   .simp[U1,ME] at h
   rfl
  have hr:DD N es ls:=hall 2 (by omega) (.inr (by rw[hpl];rfl));rw[<-hnat (by omega)] at hr ⊢;refine(Su hg hv hr).mono ?_;rintro e w' ⟨r,L,rfl,⟨rfl,b,rfl,hb⟩,hO⟩;refine⟨_,_,J,⟨J,b,J,?_⟩,hO⟩;exact WA hr hb
 .exact OS hg hu
 have hpl:pl=false:=by
  rcases ha with h|h
  .simp[U1] at h
  cases pl
  .rfl
  simp[U1,ME] at h
 have hin:∀c,c∈cs->c∈es:=hall 4 (by omega) (.inr (by rw[hpl];rfl));have hV:=h0 (by omega);rw[<-hnat (by omega)] at hV ⊢;exact Pm hg hu hV (hedges (by omega) hpl) hin
theorem Vv{N:Int}{pl:Bool}{es cs:List Pr}{ls:List (List Int)}{i:Nat}(hi:i<6)(ha:SV pl i)(hall:∀j,j<i->SV pl j->PS N es pl ls cs j)(hn:¬PS N es pl ls cs i):Ie N es pl ls cs=ZW i:=by
 have h0:0<i->BX N es:=fun h=>hall 0 h (.inl rfl);have h1:1<i->FA pl ls cs:=fun h=>hall 1 h (.inl rfl);unfold Ie;have hk1:∀{k:Int},(k=0\/k=ME true)->k=0\/k=1:=fun h=>h;have hk2:∀{k:Int},(k=0\/k=ME false)->k=0\/k= -1:=fun h=>h;rcases(show i=0\/i=1\/i=2\/i=3\/i=4\/i=5 by omega) with rfl|rfl|rfl|rfl|rfl|rfl
 .have hn':¬BX N es:=hn;rw[if_pos hn'];rfl
 .have a0:=h0 (by omega);have hn':¬FA pl ls cs:=hn;rw[if_neg (not_not_intro a0),if_pos hn'];rfl
 .have a0:=h0 (by omega);have a1:=h1 (by omega);have hn':¬DD N es ls:=hn;rw[if_neg (not_not_intro a0),if_neg (not_not_intro a1)];cases pl
  .have:=hk2 ha;simp[U1] at this
  rw[if_pos rfl,if_pos hn'];rfl
 .have a0:=h0 (by omega);have a1:=h1 (by omega);have hn':¬GS N.toNat es ls:=hn;rw[if_neg (not_not_intro a0),if_neg (not_not_intro a1)];cases pl
  .have:=hk2 ha;simp[U1] at this
  have a2:DD N es ls:=hall 2 (by omega) (.inr rfl);rw[if_pos rfl,if_neg (not_not_intro a2),if_pos hn'];rfl
 .have a0:=h0 (by omega);have a1:=h1 (by omega);have hn':¬∀c,c∈cs->c∈es:=hn;rw[if_neg (not_not_intro a0),if_neg (not_not_intro a1)];cases pl
  .rw[if_neg (by simp),if_pos hn'];rfl
  have:=hk1 ha;simp[U1] at this
 have a0:=h0 (by omega);have a1:=h1 (by omega);have hn':¬HA N.toNat cs:=hn;rw[if_neg (not_not_intro a0),if_neg (not_not_intro a1)];cases pl
 .have a4:∀c,c∈cs->c∈es:=hall 4 (by omega) (.inr rfl);rw[if_neg (by simp),if_neg (not_not_intro a4),if_pos hn'];rfl
 have:=hk1 ha;simp[U1] at this
theorem chk_ok{N:Int}{pl:Bool}{es cs:List Pr}{ls:List (List Int)}(hall:∀j,j<6->SV pl j->PS N es pl ls cs j):Ie N es pl ls cs=0:=by
 unfold Ie;have h0:BX N es:=hall 0 (by omega) (.inl rfl);have h1:FA pl ls cs:=hall 1 (by omega) (.inl rfl);rw[if_neg (not_not_intro h0),if_neg (not_not_intro h1)];cases pl
 .have a4:∀c,c∈cs->c∈es:=hall 4 (by omega) (.inr rfl);have a5:HA N.toNat cs:=hall 5 (by omega) (.inr rfl);rw[if_neg (by simp),if_neg (not_not_intro a4),if_neg (not_not_intro a5)]
 have a2:DD N es ls:=hall 2 (by omega) (.inr rfl);have a3:GS N.toNat es ls:=hall 3 (by omega) (.inr rfl);rw[if_pos rfl,if_neg (not_not_intro a2),if_neg (not_not_intro a3)]
theorem Fq{N:Int}{pl:Bool}{es cs:List Pr}{ls:List (List Int)}{va v u:Value}{w:World}(hg:DX w va es)(hv:IM w v ls)(hu:DX w u cs)(hp:Qh w)(hs:∀l,l∈ls->l.length<=33554432):
  Calls A1c 5 #[.agg #[Iv N,va],.agg #[.bool pl,v,u]] w (Ret w [] fun r M=>M=[]/\r= Iv (Ie N es pl ls cs)):=by
 have hga:∃A l c,va= .slice A l c:=by obtain⟨A,c,rfl,_⟩:=hg;exact⟨_,_,_,rfl⟩
 have hva:∃A l c,v= .slice A l c:=by obtain⟨A,c,rfl,_⟩:=hv;exact⟨_,_,_,rfl⟩
 have hua:∃A l c,u= .slice A l c:=by obtain⟨A,c,rfl,_⟩:=hu;exact⟨_,_,_,rfl⟩
 obtain⟨A1,l1,c1,rfl⟩:=hga;obtain⟨A2,l2,c2,rfl⟩:=hva;obtain⟨A3,l3,c3,rfl⟩:=hua;refine cO Tryz.func5 Tryz.ntmps5<|Zs ?_;refine ZB fun g2=>?_;refine ZB fun g3=>?_;refine Za<|Zx<|Zs ?_;refine Za<|Zx ?_;let ca:=AC g3 27 #[.bool pl,.slice A2 l2 c2,.slice A3 l3 c3];let cb:=AC g2 24 #[Iv N,.slice A1 l1 c1];refine DC.cut (ι:=Unit) (fun _=>True) (fun _=>[(2,Pv g2),(3,Pv g3),(5,Iv (ME pl))]) (fun _=>[ca,cb]) ?first3 ?rest3
 case first3=>
  refine Zs<|Zz [1,0]<|Zx ?_;refine Zd ?_ ?_<;>intro c2
  .refine Ak<|Za<|Az ?_;refine Be () trivial ⟨J,J,by rw[show pl=true from c2];rfl,trivial⟩ (Ay _)
  refine Ao ?_;refine Be () trivial ⟨J,J,by rw[show pl=false from c2];rfl,trivial⟩ (Ay _)
 rintro _ _;refine Ai<|Zs ?_;refine Bk J J (AH en11 J J J (fun w' hw=>QN w')) ?_;rintro _ _ ⟨gs,rfl,rfl⟩;simp only[zs];refine Zz [2]<|Zx<|As ?_;refine AS (ι:=Nat) (fun i=>i<=6/\∀j,j<i->SV pl j->PS N es pl ls cs j)
  (fun i=>[(2,Pv g2),(3,Pv g3),(5,Iv (ME pl)),(10,Sv gs 6),(11,Iv 6),(12,Iv i)])
  (fun _=>[AC gs 46 XM,ca,cb]) (fun i=>6-i) 0 ⟨A1E _,fun _ h=>absurd h (A1w _)⟩
  ⟨rfl,rfl,rfl,rfl,rfl,rfl,trivial⟩ (Ay _) ?_;rintro i ⟨hi,hall⟩;refine Zs<|Zc<|Zx<|Ai ?_;refine Zd ?_ ?_<;>intro c5
 .have hlt:i<6:=by simp at c5;omega
  refine Ao<|Aa<|Ai<|As<|Zs ?_;refine Zo (Bz (ad':=⟨gs,i*3,none⟩) J J J Tryz.underlying42 sz46 (by omega) (by omega) (AX _ _)) ?_;refine Zu (A4 (vs:=[Iv (U1 i),A0m (fnS i),Iv (ZW i)]) J J ag46 sz46 J (AW (VW hlt))) ?_;refine ZA ze46 fun g7=>?_;refine Zq #[Iv (U1 i),A0m (fnS i),Iv (ZW i)]<|Zx<|Zs ?_;refine Zz [1,2] ?_;refine AM 19 J (fun k7_3=>?_) (fun k7_3=>?_)
  .refine Zz [7,0] ?_;refine CR [_,_] ?_;refine CR [_,_,_] ?_;have hap:SV pl i:=by first|exact .inl (by simpa using k7_3)|exact .inr (by simpa using k7_9)
   refine AL J J (AH (Vk hlt) J J J (fun w' hw=>L4 (hg.keep0 hw) (hv.keep0 hw) (hu.keep0 hw) (hp.keep0 hw) hs hlt hap hall)) ?_;rintro _ ⟨b,rfl,hb⟩;refine Zz [2]<|Zx ?_;refine Zd ?_ ?_<;>intro c7
   .refine Zs<|Zz [1,1]<|Zx<|At<|Am<|Ad<|Ad<|Am<|Ad ?_;refine DN 4 ?_;refine Zh ?_;exact⟨J,by rw[Vv hlt hap hall (fun h=>by rw[hb.2 h] at c7;simp at c7)]⟩
   refine Ao<|An<|Aa<|Ak<|Zz [2]<|Az ?_;refine AB (i+1) (by omega) ⟨by omega,fun j hj hap'=>?_⟩ ⟨J,J,J,J,J,J,trivial⟩ (BC (BC (BC .nil)));rcases A1i.1 hj with hj|rfl
   .exact hall j hj hap'
   exact hb.1 (by simpa using c7)
  refine Zz [1,4] ?_;refine AM 25 J (fun k7_9=>?_) (fun k7_9=>?_)
  .refine Zz [1,0] ?_;refine CR [_,_] ?_;refine CR [_,_,_] ?_;have hap:SV pl i:=by first|exact .inl (by simpa using k7_3)|exact .inr (by simpa using k7_9)
   refine AL J J (AH (Vk hlt) J J J (fun w' hw=>L4 (hg.keep0 hw) (hv.keep0 hw) (hu.keep0 hw) (hp.keep0 hw) hs hlt hap hall)) ?_;rintro _ ⟨b,rfl,hb⟩;refine Zz [2]<|Zx ?_;refine Zd ?_ ?_<;>intro c7
   .refine Zs<|Zz [1,1]<|Zx<|At<|Am<|Ad<|Ad<|Am<|Ad ?_;refine DN 4 ?_;refine Zh ?_;exact⟨J,by rw[Vv hlt hap hall (fun h=>by rw[hb.2 h] at c7;simp at c7)]⟩
   refine Ao<|An<|Aa<|Ak<|Zz [2]<|Az ?_;refine AB (i+1) (by omega) ⟨by omega,fun j hj hap'=>?_⟩ ⟨J,J,J,J,J,J,trivial⟩ (BC (BC (BC .nil)));rcases A1i.1 hj with hj|rfl
   .exact hall j hj hap'
   exact hb.1 (by simpa using c7)
  refine Zz [7]<|Zx ?_;refine BN J<|Ao<|An<|Aa<|Ak ?_;refine Zz [2]<|Az ?_;refine AB (i+1) (by omega) ⟨by omega,fun j hj hap'=>?_⟩ ⟨J,J,J,J,J,J,trivial⟩ (BC (BC (BC .nil)));rcases A1i.1 hj with hj|rfl
  .exact hall j hj hap'
  rcases hap' with h|h
  .simp at k7_3;exact absurd h k7_3
  simp at k7_9;exact absurd h k7_9
 refine AN<|Ag<|Ag<|Aq<|Aa<|Zs<|Za<|Zx<|At ?_;refine DN 4 ?_;refine Zh ?_;have hie:i=6:=by simp at c5;omega
 subst hie;exact⟨J,by rw[chk_ok hall]⟩
end
section
open Classical
def KI:List Pr:=[(0,1),(0,2),(0,3),(1,2),(1,3),(2,3)]
def lsA:List (List Int):=[[1,2,3],[0,3,2],[0,1,3],[0,2,1]]
def lsB:List (List Int):=[[1,2,3],[0,2,3],[0,1,3],[0,1,2]]
def rsA:List (List Int):=[[0,2,4],[1,8,6],[3,7,10],[5,11,9]]
def rsB:List (List Int):=[[0,2,4],[1,6,8],[3,7,10],[5,9,11]]
theorem lt4{v:Nat}{α:Type}{a b c d x:α}(h:[a,b,c,d][v]? =some x):(v=0/\x=a)\/(v=1/\x=b)\/(v=2/\x=c)\/(v=3/\x=d):=by
 match v,h with
 | 0,h=>simp at h;exact .inl ⟨rfl,h.symm⟩
 | 1,h=>simp at h;exact .inr (.inl ⟨rfl,h.symm⟩)
 | 2,h=>simp at h;exact .inr (.inr (.inl ⟨rfl,h.symm⟩))
 | 3,h=>simp at h;exact .inr (.inr (.inr ⟨rfl,h.symm⟩))
 | v+4,h=>simp at h
theorem lt3{v:Nat}{α:Type}{a b c x:α}(h:[a,b,c][v]? =some x):(v=0/\x=a)\/(v=1/\x=b)\/(v=2/\x=c):=by
 match v,h with
 | 0,h=>simp at h;exact .inl ⟨rfl,h.symm⟩
 | 1,h=>simp at h;exact .inr (.inl ⟨rfl,h.symm⟩)
 | 2,h=>simp at h;exact .inr (.inr ⟨rfl,h.symm⟩)
 | v+3,h=>simp at h
theorem VR:BX 4 KI where
 lo:=by decide
 hi:=by decide
 few:=by decide
 ok:=by
  intro i e h
  match i,h with
  | 0,h=>cases h;exact⟨by decide,by decide,by decide⟩
  | 1,h=>cases h;exact⟨by decide,by decide,by decide⟩
  | 2,h=>cases h;exact⟨by decide,by decide,by decide⟩
  | 3,h=>cases h;exact⟨by decide,by decide,by decide⟩
  | 4,h=>cases h;exact⟨by decide,by decide,by decide⟩
  | 5,h=>cases h;exact⟨by decide,by decide,by decide⟩
  | i+6,h=>simp[KI] at h
 up:=by
  intro i a b h k
  match i,h,k with
  | 0,h,k=>cases h;cases k;exact .inr ⟨by decide,by decide⟩
  | 1,h,k=>cases h;cases k;exact .inr ⟨by decide,by decide⟩
  | 2,h,k=>cases h;cases k;exact .inl (by decide)
  | 3,h,k=>cases h;cases k;exact .inr ⟨by decide,by decide⟩
  | 4,h,k=>cases h;cases k;exact .inl (by decide)
  | i+5,h,k=>simp[KI] at k
theorem conn4{v:Nat}(h0:0<v)(h:v<4):Dx KI 0 v:=by
 refine .edge 0 v ?_
 match v,h0,h with
 | 1,_,_=>decide
 | 2,_,_=>decide
 | 3,_,_=>decide
theorem YA:Fh 4 KI=1:=by
 have e:List.range 4=[0,1,2,3]:=rfl;unfold Fh;rw[e];have h0:∀y,y<0->¬Dx KI y 0:=fun y h=>by omega
 have h1:∀v,0<v->v<4->¬(∀y,y<v->¬Dx KI y v):=fun v h1 h2 h=>h 0 h1 (conn4 h1 h2);rw[A1Q,A1Q,A1Q,A1Q,List.countP_nil,if_neg (by simpa using h1 3 (by decide) (by decide)),if_neg (by simpa using h1 2 (by decide) (by decide)),if_neg (by simpa using h1 1 (by decide) (by decide)),if_pos (decide_eq_true h0)]
theorem iso4:NC 4 KI=0:=by decide
def tabF(l:List Int)(h:Nat):Int:=(l[h]?).getD 0
def fnA:Nat->Int:=tabF [2,8,4,7,0,11,1,10,6,5,3,9]
def fnB:Nat->Int:=tabF [2,6,4,7,0,9,8,10,1,11,3,5]
theorem Ix{f:Nat->Nat}{x m:Nat}(h0:0<m)(h1:De f m x=x)(h2:∀k,k<m->x<=De f k x):Cc f x:=by
 intro k
 induction k using Nat.strongRecOn with
 | _ k ih=>
  by_cases hk:k<m
  .exact h2 k hk
  have:=ih (k-m) (by omega);have e:De f k x=De f (k-m) (De f m x):=by rw[<-E9];congr 1;omega
  rw[e,h1];exact this
theorem Cu{f:Nat->Nat}{x k:Nat}(h:De f k x<x):¬Cc f x:=fun hl=>by have:=hl k;omega
theorem facesA:EH KI fnA=4:=by
 have h0:decide (Cc (CM fnA) 0)=true:=decide_eq_true (Ix (m:=3) (by decide) (by decide) (by decide));have h1:decide (Cc (CM fnA) 1)=true:=decide_eq_true (Ix (m:=3) (by decide) (by decide) (by decide));have h2:decide (Cc (CM fnA) 2)=false:=decide_eq_false (Cu (k:=2) (by decide));have h3:decide (Cc (CM fnA) 3)=true:=decide_eq_true (Ix (m:=3) (by decide) (by decide) (by decide));have h4:decide (Cc (CM fnA) 4)=false:=decide_eq_false (Cu (k:=2) (by decide));have h5:decide (Cc (CM fnA) 5)=false:=decide_eq_false (Cu (k:=1) (by decide));have h6:decide (Cc (CM fnA) 6)=true:=decide_eq_true (Ix (m:=3) (by decide) (by decide) (by decide));have h7:decide (Cc (CM fnA) 7)=false:=decide_eq_false (Cu (k:=1) (by decide));have h8:decide (Cc (CM fnA) 8)=false:=decide_eq_false (Cu (k:=2) (by decide));have h9:decide (Cc (CM fnA) 9)=false:=decide_eq_false (Cu (k:=1) (by decide));have h10:decide (Cc (CM fnA) 10)=false:=decide_eq_false (Cu (k:=2) (by decide));have h11:decide (Cc (CM fnA) 11)=false:=decide_eq_false (Cu (k:=1) (by decide));have e:List.range (KI.length*2)=[0,1,2,3,4,5,6,7,8,9,10,11]:=rfl;unfold EH D6;rw[e,A1S];simp only[A3P,List.filter_nil,h0,h1,h2,h3,h4,h5,h6,h7,h8,h9,h10,h11]
 rfl
theorem facesB:EH KI fnB=2:=by
 have h0:decide (Cc (CM fnB) 0)=true:=decide_eq_true (Ix (m:=4) (by decide) (by decide) (by decide));have h1:decide (Cc (CM fnB) 1)=true:=decide_eq_true (Ix (m:=8) (by decide) (by decide) (by decide));have h2:decide (Cc (CM fnB) 2)=false:=decide_eq_false (Cu (k:=7) (by decide));have h3:decide (Cc (CM fnB) 3)=false:=decide_eq_false (Cu (k:=3) (by decide));have h4:decide (Cc (CM fnB) 4)=false:=decide_eq_false (Cu (k:=2) (by decide));have h5:decide (Cc (CM fnB) 5)=false:=decide_eq_false (Cu (k:=1) (by decide));have h6:decide (Cc (CM fnB) 6)=false:=decide_eq_false (Cu (k:=3) (by decide));have h7:decide (Cc (CM fnB) 7)=false:=decide_eq_false (Cu (k:=6) (by decide));have h8:decide (Cc (CM fnB) 8)=false:=decide_eq_false (Cu (k:=5) (by decide));have h9:decide (Cc (CM fnB) 9)=false:=decide_eq_false (Cu (k:=1) (by decide));have h10:decide (Cc (CM fnB) 10)=false:=decide_eq_false (Cu (k:=2) (by decide));have h11:decide (Cc (CM fnB) 11)=false:=decide_eq_false (Cu (k:=4) (by decide));have e:List.range (KI.length*2)=[0,1,2,3,4,5,6,7,8,9,10,11]:=rfl;unfold EH D6;rw[e,A1S];simp only[A3P,List.filter_nil,h0,h1,h2,h3,h4,h5,h6,h7,h8,h9,h10,h11]
 rfl
theorem genusA:DJ 4 KI fnA=0:=by unfold DJ;rw[YA,iso4,facesA];rfl
theorem genusB:DJ 4 KI fnB=2:=by unfold DJ;rw[YA,iso4,facesB];rfl
theorem KG{es:List Pr}{u v x:Int}(h:G8 u v 0 es=x)(hx:x≠ -1):CZ es u v x:=by
 rcases Tq (es:=es) u v with h1|⟨h1,_⟩
 .rw[h] at h1;exact h1
 omega
theorem YP{es:List Pr}{v:Nat}{l:List Int}(h:∀u,u∈l->G8 v u 0 es≠ -1):∀u,u∈l->∃h,CZ es v u h:=fun u hu=>⟨_,KG rfl (h u hu)⟩
theorem rotOkA:DD 4 KI lsA:=by
 refine⟨VR,by decide,fun v l hl=>?_⟩;rcases lt4 hl with⟨rfl,rfl⟩|⟨rfl,rfl⟩|⟨rfl,rfl⟩|⟨rfl,rfl⟩<;>exact⟨YP (by decide),by decide,by decide⟩
theorem X0:DD 4 KI lsB:=by
 refine⟨VR,by decide,fun v l hl=>?_⟩;rcases lt4 hl with⟨rfl,rfl⟩|⟨rfl,rfl⟩|⟨rfl,rfl⟩|⟨rfl,rfl⟩<;>exact⟨YP (by decide),by decide,by decide⟩
theorem rotRA:Nc KI lsA rsA:=by
 refine⟨J,fun v l r hl hr=>?_⟩;rcases lt4 hl with⟨rfl,rfl⟩|⟨rfl,rfl⟩|⟨rfl,rfl⟩|⟨rfl,rfl⟩<;>cases hr<;>refine⟨rfl,fun j u h hj hk=>?_⟩<;>rcases lt3 hj with⟨rfl,rfl⟩|⟨rfl,rfl⟩|⟨rfl,rfl⟩<;>cases hk<;>exact KG (by decide) (by decide)
theorem rotRB:Nc KI lsB rsB:=by
 refine⟨J,fun v l r hl hr=>?_⟩;rcases lt4 hl with⟨rfl,rfl⟩|⟨rfl,rfl⟩|⟨rfl,rfl⟩|⟨rfl,rfl⟩<;>cases hr<;>refine⟨rfl,fun j u h hj hk=>?_⟩<;>rcases lt3 hj with⟨rfl,rfl⟩|⟨rfl,rfl⟩|⟨rfl,rfl⟩<;>cases hk<;>exact KG (by decide) (by decide)
theorem nxOkA:Dj rsA rsA.length fnA:=by
 intro x l i h hx hl hi;rcases lt4 hl with⟨rfl,rfl⟩|⟨rfl,rfl⟩|⟨rfl,rfl⟩|⟨rfl,rfl⟩<;>rcases lt3 hi with⟨rfl,rfl⟩|⟨rfl,rfl⟩|⟨rfl,rfl⟩<;>rfl
theorem nxOkB:Dj rsB rsB.length fnB:=by
 intro x l i h hx hl hi;rcases lt4 hl with⟨rfl,rfl⟩|⟨rfl,rfl⟩|⟨rfl,rfl⟩|⟨rfl,rfl⟩<;>rcases lt3 hi with⟨rfl,rfl⟩|⟨rfl,rfl⟩|⟨rfl,rfl⟩<;>rfl
theorem flatA:GS 4 KI lsA:=⟨rsA,fnA,rotRA,nxOkA,genusA⟩
theorem flatB:¬GS 4 KI lsB:=by
 rintro⟨rs,fn,h1,h2,h3⟩;have:=N3 VR h1 rotRB;subst this;have h4:=MP (n:=4) (JC X0 h1) h2 nxOkB;rw[h3,genusB] at h4;omega
theorem RI{ls:List (List Int)}(h1:ls.length<=4)(h:∀l,l∈ls->∀n,n∈l->Ik n/\∀a,l[0]? =some a->a<=n):Kg ls:=by
 refine⟨by omega,fun i l hl j n a hj ha=>?_⟩;have:=h l (A1h hl) n (A1h hj);exact⟨this.1,this.2 a ha⟩
theorem KD{ls:List (List Int)}(h:∀l,l∈ls->l.length<=3/\∀a,a∈l->Qv a):(ls.map HG).flatten.length<=100*ls.length:=by
 induction ls with
 | nil=>simp
 | cons l r ih=>
  have h1:=h l (A1m ..);have h2:=Iw h1.2;have h3:=ih (fun l' hl=>h l' (A1q _ hl));simp only[A1M,List.flatten_cons,A1V,A2a];omega
theorem textA:FA true lsA []:=by
 refine⟨⟨J,RI (by decide) (by unfold Ik;decide)⟩,?_⟩;have h1:=Iz (letter:=[112]) (n:=4) rfl (by decide);have h2:=KD (ls:=lsA) (by unfold Qv;decide);have h3:lsA.length=4:=rfl;simp only[K5,IQ,A1V,if_true,A1S,h3] at h1 h2 ⊢;omega
theorem textB4:FA true lsB []:=by
 refine⟨⟨J,RI (by decide) (by unfold Ik;decide)⟩,?_⟩;have h1:=Iz (letter:=[112]) (n:=4) rfl (by decide);have h2:=KD (ls:=lsB) (by unfold Qv;decide);have h3:lsB.length=4:=rfl;simp only[K5,IQ,A1V,if_true,A1S,h3] at h1 h2 ⊢;omega
def cs4:List Pr:=[(0,1),(0,4)]
theorem textC:FA false [] cs4:=by
 refine⟨⟨J,⟨by decide,fun i e h=>?_,fun i a b h k=>?_⟩⟩,?_⟩
 .match i,h with
  | 0,h=>cases h;unfold Ik;decide
  | 1,h=>cases h;unfold Ik;decide
  | i+2,h=>simp[cs4] at h
 .match i,h,k with
  | 0,h,k=>cases h;cases k;exact .inr ⟨rfl,by decide⟩
  | i+1,h,k=>simp[cs4] at k
 have h1:=Iz (letter:=[110]) (n:=2) rfl (by decide);have h2:=KD (ls:=[[0,1],[0,4]]) (by unfold Qv;decide);simp only[K5,IQ,A1V,A1S,cs4,A1M,A3I,A2a,A2H] at h1 h2 ⊢;simp only[A2u,if_false,A1V];simp at h1 h2 ⊢;omega
theorem chkA:Ie 4 KI true lsA []=0:=by
 unfold Ie;rw[if_neg (not_not_intro VR),if_neg (not_not_intro textA),if_pos rfl,if_neg (not_not_intro rotOkA),if_neg (not_not_intro (show GS (4:Int).toNat KI lsA from flatA))]
theorem chkB:Ie 4 KI true lsB []=183:=by
 unfold Ie;rw[if_neg (not_not_intro VR),if_neg (not_not_intro textB4),if_pos rfl,if_neg (not_not_intro X0),if_pos (show ¬GS (4:Int).toNat KI lsB from flatB)]
theorem chkC:Ie 4 KI false [] cs4=184:=by
 unfold Ie;rw[if_neg (not_not_intro VR),if_neg (not_not_intro textC),if_neg (by decide),if_pos];intro h;have:=h (0,4) (by decide)
 revert this;decide
def A0z:List UInt8:=[49,32,49,10,48,32,49,10]
theorem raw4:Md A0z= .bad 24 6:=by
 simp[Md,FB,A0z,C8,DW,Ge,MS,Ex,DV,WK]
end
def Kn(gs:Nat)(vb vt:Value)(i:Nat)(tk:List Tk):List Chunk:=[AC gs 209 #[vb,Iv i,vt],Bf vt 146 4 (GD tk)]
def QR(v e:Int):Value:=.iface 205 (.agg #[Iv v,Iv e])
def ER(bs:List UInt8)(i:Nat):Bool:=(bs[i]?.map DW).getD false
theorem G3{gs i:Nat}{vb vt:Value}{tk:List Tk}{kd fr nu:Int}{w:World}(hO:AR w (AY (Kn gs vb vt i tk)) w (Kn gs vb vt i tk))(hl:tk.length<=100000000):
  Calls A1c 131 #[Pv gs,Iv kd,Iv fr,Iv nu] w
   (Ret w (AY (Kn gs vb vt i tk)) fun r M=>r= .tuple #[]/\∃vt',M=Kn gs vb vt' i (tk++[⟨kd,fr,i,nu⟩])):=by
 refine BO (args:=[_,_,_,_]) Tryz.func131 J Tryz.ntmps131 J hO ?_;unfold Kn;refine Fv 300320010000010000 18 ?_;refine Yz [4,5,1] ?_;refine Yo J (Dy (cs:=#[_,_,_,_]) J J bs146 J J) ?_;refine A8 J J J J (Eo (cs:=#[_,_,_,_]) J J Tryz.underlying139 Ev NQ J (by decide) (by decide) J J) fun g21=>?_;let ca:=AC g21 146 #[Iv kd,Iv fr,Iv i,Iv nu];refine C5 (V:=[ca,AC gs 209 #[vb,Iv i,vt],Bf vt 146 4 (GD tk)]) J J J J J (SP.shape (Bt (F:=[ca,AC gs _ _]) (vs:=GD tk) (k:=1) (news:=[Iv kd,Iv fr,Iv i,Iv nu]) J J J Tryz.underlying139 Ev by146 NQ J (by decide) (by decide)
  (PK (CY (Bg (Bg .nil)))) (.inl ⟨_,_,rfl,AW rfl⟩) rfl (by intro u hu;simp at hu;rcases hu with rfl|rfl|rfl|rfl<;>rfl) (by rw[tks_length];omega))) (fun v L' hC w hw=>hw.pick (.nil)) ?_;rintro _ _ ⟨⟨A11,l11,c11,rfl⟩,rfl⟩;refine Yz [2] ?_;refine AO J J J J (AP (cs':=#[_,_,_]) J J J sz139 J (A1f J) J) PN ?_;refine AF J ?_;simp only[zq,zr];refine AZ (E':=[]) trivial (CY (Bg .nil)) ?_;refine BQ (.inr J) J ?_;refine⟨J,.slice A11 l11 c11,?_⟩;simp[Kn,LX,GD]
theorem Jx{gs i:Nat}{vb vt:Value}{bs:List UInt8}{w:World}(hg:w.heap[gs]? =some (.cells #[vb,Iv i,vt] 209 (0,0)))(hB:OQ w vb bs):
  Calls A1c 129 #[Pv gs] w (Ret w [] fun r M=>M=[]/\r= .bool (ER bs i)):=by
 obtain⟨A,cap,rfl,hR,h1,h2⟩:=hB;refine cO Tryz.func129 Tryz.ntmps129<|Zs ?_;refine Za<|Zx<|Ai ?_;refine Fv 1010001000000101000100000010001000 37 ?_;refine Yz [3] ?_;refine Yh (Bh hg J) ?_;refine Yz [3] ?_;refine Yh (Bh hg J) ?_;refine Yo J (EC J J Tryz.underlying41) ?_;refine Yz [2] ?_;refine BF.split 13 J (fun k1_10=>?_) (fun k1_10=>?_)
 .have hil:i<bs.length:=by simpa using k1_10
  obtain⟨c,hc⟩:∃c,bs[i]? =some c:=⟨_,A1d hil⟩;obtain⟨ad,rfl,hcell⟩:=hR.byte hc;refine Yz [3] ?_;refine Yh (Bh hg J) ?_;refine Yz [3] ?_;refine Yh (Bh hg J) ?_;refine Yi (ad':=ad.add i) Tryz.underlying41 sz5 ?_ (he:=by rw[A1g]);refine Yh (A7 hcell) ?_;refine Yo J (p_geq J J J) ?_;refine Yz [2] ?_;refine BF.split 26 J (fun k1_23=>?_) (fun k1_23=>?_)
  .refine Yz [3] ?_;refine Yh (Bh hg J) ?_;refine Yz [3] ?_;refine Yh (Bh hg J) ?_;refine Yi (ad':=ad.add i) Tryz.underlying41 sz5 ?_ (he:=by rw[A1g]);refine Yh (A7 hcell) ?_;refine Yo J (p_leq J J J) ?_;refine Yz [2] ?_;refine AF J ?_;simp only[zq,zr];refine Aa<|At ?_;refine Zh ?_;refine⟨J,?_⟩
   first
   | (have h9:48<=c.toNat:=by(simp at k1_23;omega)
      rw[ER,hc];simp[DW,h9];omega)
   | (have h9:¬48<=c.toNat:=by(simp at k1_23;omega)
      rw[ER,hc];simp[DW,h9])
   | (rw[ER,A1u hil];rfl)
  refine Yz [13] ?_;refine AF J ?_;simp only[zq,zr];refine Aa<|At ?_;refine Zh ?_;refine⟨J,?_⟩
  first
  | (have h9:48<=c.toNat:=by(simp at k1_23;omega)
     rw[ER,hc];simp[DW,h9];omega)
  | (have h9:¬48<=c.toNat:=by(simp at k1_23;omega)
     rw[ER,hc];simp[DW,h9])
  | (rw[ER,A1u hil];rfl)
 have hil:bs.length<=i:=by simpa using k1_10
 refine Yz [26] ?_;refine AF J ?_;simp only[zq,zr];refine Aa<|At ?_;refine Zh ?_;refine⟨J,?_⟩
 first
 | (have h9:48<=c.toNat:=by(simp at k1_23;omega)
    rw[ER,hc];simp[DW,h9];omega)
 | (have h9:¬48<=c.toNat:=by(simp at k1_23;omega)
    rw[ER,hc];simp[DW,h9])
 | (rw[ER,A1u hil];rfl)
theorem Vs{c:UInt8}(h:DW c=true):48<=c.toNat/\c.toNat<=57:=by simpa [DW] using h
theorem Ue:∀(k:Nat) (l:List UInt8),l.length=k->(∀c,c∈l->DW c=true)->0<=MS l/\MS l<10^k:=by
 intro k
 induction k with
 | zero=>intro l h _;rw[A1s h];simp[MS]
 | succ k ih=>
  intro l h hd;have hne:l≠[]:=by rintro rfl;simp at h
  obtain⟨x,hx⟩:∃x,x=l.getLast hne:=⟨_,rfl⟩;have e:l=l.dropLast++[x]:=by rw[hx];exact(A3Q hne).symm
  have h1:=ih l.dropLast (by simp;omega) (fun c hc=>hd c (List.dropLast_subset _ hc));have h2:=Vs (hd x (by rw[hx];exact List.getLast_mem hne));rw[e,OC];have:(10:Int)^(k+1)=10*10^k:=by rw[Int.pow_succ,Int.mul_comm]
  omega
theorem F7{bs:List UInt8}{i:Nat}(h:ER bs i=true):∃c,bs[i]? =some c/\DW c=true:=by
 unfold ER at h;cases hc:bs[i]? with
 | none=>rw[hc] at h;cases h
 | some c=>rw[hc] at h;exact⟨c,rfl,h⟩
def H6(bs:List UInt8)(i j:Nat):Int:=MS ((bs.drop i).take (min (j-i) 9))
theorem Wo{bs:List UInt8}{i j:Nat}(hd:∀p,i<=p->p<j->ER bs p=true)(hij:i<=j)(hj:j<=bs.length):0<=H6 bs i j/\H6 bs i j<1000000000:=by
 have hl:((bs.drop i).take (min (j-i) 9)).length=min (j-i) 9:=by simp;omega
 have:=Ue _ _ hl (fun c hc=>by
  obtain⟨p,hp,rfl⟩:=List.mem_iff_getElem.1 hc;rw[hl] at hp;obtain⟨c',h1,h2⟩:=F7 (hd (i+p) (by omega) (by omega));simp only[List.getElem_take,List.getElem_drop];rw[A1d (by omega)] at h1;cases h1;exact h2);have h9:(10:Int)^(min (j-i) 9)<=10^9:=by
  have:min (j-i) 9<=9:=Nat.min_le_right _ _
  exact_mod_cast Nat.pow_le_pow_right (by omega) this
 have:(10:Int)^9=1000000000:=by decide
 unfold H6;omega
theorem Rr{bs:List UInt8}{i j:Nat}{c:UInt8}(hij:i<=j)(hc:bs[j]? =some c):H6 bs i (j+1)=if j-i<9 then 10*H6 bs i j+((c.toNat:Int)-48) else H6 bs i j:=by
 unfold H6;have hj:=(A1e.1 hc).1;split
 .rename_i h;rw[show min (j+1-i) 9=(j-i)+1 by omega,show min (j-i) 9=j-i by omega,A1W,<-OC]
  congr 1;congr 1
  rw[A2S,show i+(j-i)=j by omega,hc];rfl
 rename_i h;rw[show min (j+1-i) 9=9 by omega,show min (j-i) 9=9 by omega]
theorem Tc{gs i:Nat}{vb vt:Value}{tk:List Tk}{bs:List UInt8}{w:World}(hO:AR w (AY (Kn gs vb vt i tk)) w (Kn gs vb vt i tk))(hB:OQ w vb bs)(ho:ByO vb bs (AY (Kn gs vb vt i tk)))(hl:tk.length<=100000000)(hb:bs.length<=33554432)
 (h0:ER bs i=true):
  Calls A1c 130 #[Pv gs] w
   (Nd w (AY (Kn gs vb vt i tk)) (fun r M=>r= .tuple #[]/\∃vt' j tk',M=Kn gs vb vt' j tk'/\(i<j/\j<=bs.length)/\tk'.length=tk.length+1/\C8 i (bs.drop i) tk=C8 j (bs.drop j) tk')
    (fun pv M=>∃a e,pv=QR a e/\C8 i (bs.drop i) tk= .bad a e)):=by
 obtain⟨A,cap,hvb,hR,hb1,hb2⟩:=id hB;have hil:i<bs.length:=by obtain⟨c,hc,_⟩:=F7 h0;exact(A1e.1 hc).1
 obtain⟨c0,hc0,hd0⟩:=F7 h0;obtain⟨ad0,hA,_⟩:=hR.byte hc0;subst hA;subst hvb;refine FP (args:=[_]) Tryz.func130 J Tryz.ntmps130 J hO ?_;unfold Kn at ho ⊢;refine Zs<|Zz [3,2]<|Zx<|Ai<|As ?_;refine AS (ι:=Nat) (fun j=>i<=j/\j<=bs.length/\∀p,i<=p->p<j->ER bs p=true)
  (fun j=>[(0,Pv gs),(2,Iv i),(3,Iv (H6 bs i j))]) (fun j=>[AC gs 209 #[.slice (some ad0) bs.length cap,Iv (j:Nat),vt],Bf vt 146 4 (GD tk)]) (fun j=>bs.length-j) i ⟨A1F _,by omega,fun p h1 h2=>by omega⟩ ⟨J,J,by simp[H6,MS,B5],trivial⟩ (Bg (Bg .nil)) ?_;rintro j ⟨hij,hjl,hdj⟩;refine Ai<|Zs<|Zm ?_;refine AL J J (AH en129 J J J (fun w hw=>Jx (i:=j) (vt:=vt) (hw.holds _ (A1m ..)) (hB.keep ho hw))) ?_;rintro _ rfl;refine Zx ?_;refine Zd ?_ ?_<;>intro c1
 .obtain⟨c,hcj,hdc⟩:=F7 (bs:=bs) (i:=j) (by simpa using c1);have hcn:=Vs hdc;have hjl':j<bs.length:=(A1e.1 hcj).1;have hnb:=Wo hdj hij hjl;refine Ao<|Aa<|As<|Ai<|Zs<|Zz [3,3]<|Zx ?_;refine Zd ?_ ?_<;>intro c2
  .refine Fv 101000100000 16 ?_;refine Ym ?_;refine Yo J (Dz J J J (by omega)) ?_;refine Yz [3,3,0] ?_;refine Yi (ad':=ad0.add j) Tryz.underlying41 sz5 ?_ (he:=by rw[A1g]);refine Yh (hB.has ho hcj) ?_;refine Yo J (p_sub8 J J J (by omega)) ?_;refine Yo J (TA J J Tryz.underlying5 Tryz.underlying3 (by omega) (by omega)) ?_;refine Yz [2] ?_;refine AF J ?_;simp only[zq,zr];refine Aa<|Ak<|Zz [3,3] ?_;refine Jj #[_,_,_]<|Az<|An ?_;have hst:=Rr hij hcj;refine AB (j+1) (by omega) ⟨by omega,by omega,fun p h1 h2=>?_⟩ ⟨J,J,?_,trivial⟩ (.cons' 0 J (by simp) (Bg .nil))
   .by_cases hp:p=j
    .subst hp;simpa using c1
    exact hdj p h1 (by omega)
   rw[hst];simp at c2
   first
   | (rw[if_pos (by omega)];rfl)
   | (rw[if_neg (by omega)];rfl)
  refine Ao<|Aa<|Ak<|Zz [3,3] ?_;refine Jj #[_,_,_]<|Az<|An ?_;have hst:=Rr hij hcj;refine AB (j+1) (by omega) ⟨by omega,by omega,fun p h1 h2=>?_⟩ ⟨J,J,?_,trivial⟩ (.cons' 0 J (by simp) (Bg .nil))
  .by_cases hp:p=j
   .subst hp;simpa using c1
   exact hdj p h1 (by omega)
  rw[hst];simp at c2
  first
  | (rw[if_pos (by omega)];rfl)
  | (rw[if_neg (by omega)];rfl)
 refine AN<|Ag<|Ag<|Aq<|Aa<|Ai<|Ai ?_;have hkd:Ge (bs.drop i)=j-i:=by
  rw[Si (j-i) i (fun p h1 h2=>F7 (hdj p h1 (by omega))),show i+(j-i)=j by omega,Y9 (fun c hc=>by simpa [ER,hc] using c1),A2x]
 have hji:i<j:=by
  rcases Nat.lt_or_eq_of_le hij with h|h
  .exact h
  subst h;rw[h0] at c1;simp at c1
 refine Ak<|Zz [3,3]<|Zx<|Zs ?_;refine Zz [3] ?_;refine AM 48 J (fun k6_2=>?_) (fun k6_2=>?_)
 .refine Zz [13]<|Zx ?_;refine Bn J<|Ak ?_;refine Zm ?_;refine ZS #[_,_] Vx ?_;refine Zo (I4 (v:=QR i 12) J J (fun w=>by kernel_rfl)) ?_;refine CN.panic J J J ?_;refine AI<|?_;refine BR ⟨i,12,J,Jy hc0 hd0 hkd ?_⟩
  first
  | (simp at k6_2;omega)
  | (simp at k6_5 c6;omega)
 refine Zz [3] ?_;refine AM 51 J (fun k6_5=>?_) (fun k6_5=>?_)
 .refine Zz [3,1] ?_;refine Zi (ad':=ad0.add i) Tryz.underlying41 sz5 ?_ (he:=by rw[A1g]);refine Zu (AG J J ag5 (hB.has ho hc0)) ?_;refine ZE ?_;refine Zz [2]<|Zx ?_;refine Zd ?_ ?_<;>intro c6
  .refine Ak<|Zm ?_;refine ZS #[_,_] Vx ?_;refine Zo (I4 (v:=QR i 12) J J (fun w=>by kernel_rfl)) ?_;refine CN.panic J J J ?_;refine AI<|?_;refine BR ⟨i,12,J,Jy hc0 hd0 hkd ?_⟩
   first
   | (simp at k6_2;omega)
   | (simp at k6_5 c6;omega)
  refine Ao<|Aa<|Ak<|Zz [3] ?_;refine AU J J (BT Vo J J J (Lc:=Kn gs (.slice (some ad0) bs.length cap) vt j tk) (F:=[]) (.refl _) (fun k hk=>hk) (fun w hw=>G3 hw.self hl)) ?_;rintro _ _ ⟨_,⟨rfl,vt',rfl⟩,rfl⟩;refine Az ?_;refine Ga (.inr J) (BQ (.inr J) J ?_);have hk9:¬(9<j-i\/(1<j-i/\c0.toNat=48)):=by
   first
   | (simp at k6_2 k6_5 c6;omega)
   | (simp at k6_2 k6_5;omega)
  refine⟨J,vt',j,_,A1O _,⟨hji,hjl⟩,by simp,?_⟩;have:=N2 (acc:=tk) hc0 hd0 hkd (by omega) (by omega);rw[this,show i+(j-i)=j by omega];unfold H6;rw[show min (j-i) 9=j-i by omega]
 refine Zz [10]<|Zx ?_;refine BN J<|Ao<|Aa<|Ak ?_;refine Zz [3] ?_;refine AU J J (BT Vo J J J (Lc:=Kn gs (.slice (some ad0) bs.length cap) vt j tk) (F:=[]) (.refl _) (fun k hk=>hk) (fun w hw=>G3 hw.self hl)) ?_;rintro _ _ ⟨_,⟨rfl,vt',rfl⟩,rfl⟩;refine Az ?_;refine Ga (.inr J) (BQ (.inr J) J ?_);have hk9:¬(9<j-i\/(1<j-i/\c0.toNat=48)):=by
  first
  | (simp at k6_2 k6_5 c6;omega)
  | (simp at k6_2 k6_5;omega)
 refine⟨J,vt',j,_,A1O _,⟨hji,hjl⟩,by simp,?_⟩;have:=N2 (acc:=tk) hc0 hd0 hkd (by omega) (by omega);rw[this,show i+(j-i)=j by omega];unfold H6;rw[show min (j-i) 9=j-i by omega]
structure AllI where
 i:Nat
 vt:Value
 tk:List Tk
theorem Th{gs:Nat}{vb vt:Value}{bs:List UInt8}{w:World}(hO:AR w (AY (Kn gs vb vt 0 [])) w (Kn gs vb vt 0 []))(hB:OQ w vb bs)(ho:ByO vb bs (AY (Kn gs vb vt 0 []))):
  Calls A1c 103 #[Pv gs] w
   (Nd w (AY (Kn gs vb vt 0 [])) (fun r M=>r= .tuple #[]/\∃vt' j tk',M=Kn gs vb vt' j tk'/\FB bs= .ok tk'/\tk'.length<=33554433)
    (fun pv M=>∃a e,pv=QR a e/\FB bs= .bad a e)):=by
 obtain⟨A,cap,hvb,hR,hb1,hb2⟩:=id hB;refine FP (args:=[_]) Tryz.func103 J Tryz.ntmps103 J hO ?_;subst hvb;unfold Kn at ho ⊢;refine Ai<|Zs<|Zz [3,2]<|Zx ?_;refine Zd ?_ ?_<;>intro c0
 .refine Ak ?_;refine ZS #[_,_] Vx ?_;refine Zo (I4 (v:=QR 33554432 10) J J (fun w=>by kernel_rfl)) ?_;refine CN.panic J J J ?_;refine AI<|?_;refine BR ⟨33554432,10,J,?_⟩;have:33554432<bs.length:=by simp at c0;omega
  simp[FB,this]
 have hlen:bs.length<=33554432:=by simp at c0;omega
 have hsA:FB bs=C8 0 bs []:=by rw[FB,if_neg (by omega)]
 refine Ao<|Aa<|Ai<|As ?_;refine AS (ι:=AllI) (fun j=>j.i<=bs.length/\j.tk.length<=j.i/\FB bs=C8 j.i (bs.drop j.i) j.tk)
  (fun j=>[(0,Pv gs)]) (fun j=>[AC gs 209 #[.slice A bs.length cap,Iv (j.i:Nat),j.vt],Bf j.vt 146 4 (GD j.tk)]) (fun j=>bs.length-j.i) ⟨0,vt,[]⟩ ⟨by simp,by simp,hsA⟩ ⟨J,trivial⟩ (Bg (Bg .nil)) ?_;rintro⟨i,vt,tk⟩ ⟨hi,htl,hsc⟩;dsimp only at hi htl hsc ⊢;refine Ai<|Ai ?_;refine Fv 10001000 10 ?_;refine Yz [3,3,0] ?_;refine Yo J (EC J J Tryz.underlying41) ?_;refine Yz [1] ?_;refine AF J ?_;simp only[zq,zr];refine Aa ?_;refine Zd ?_ ?_<;>intro c2
 .have hil:i<bs.length:=by simpa using c2
  obtain⟨c,hc⟩:∃c,bs[i]? =some c:=⟨_,A1d hil⟩;obtain⟨ad,rfl,hcell⟩:=hR.byte hc;refine Ao<|Aa<|As<|Ai ?_;refine Fv 1010001000 11 ?_;refine Yz [3,3,0] ?_;refine Yi (ad':=ad.add i) Tryz.underlying41 sz5 ?_ (he:=by rw[A1g]);refine Yh (hB.has ho hc) ?_;refine Yz [1] ?_;refine AF J ?_;simp only[zq,zr];refine Aa<|As<|Zs<|Zm ?_;refine AL J J (AH en129 J J J (fun w hw=>Jx (i:=i) (vt:=vt) (hw.holds _ (A1m ..)) (hB.keep ho hw))) ?_;rintro _ rfl;refine Za<|Zx ?_;refine Zd ?_ ?_<;>intro c5
  .have hd:ER bs i=true:=by simpa using c5
   refine Ak<|Zm ?_;refine GQ J J en130 J J J (Lc:=Kn gs (.slice (some ad) bs.length cap) vt i tk) (F:=[]) (.refl _) (fun k hk=>hk) (fun w hw=>Tc hw.self (hB.keep ho hw) (ByO.step hB ho hw) (by omega) hlen hd) ?_ ?_
   .rintro pv L' ⟨a,e,rfl,h⟩;refine AQ<|AQ<|AI<|AQ<|AI<|?_;exact BR ⟨a,e,J,hsc.trans h⟩
   rintro _ _ ⟨rfl,vt',j,tk',rfl,⟨hj,hj2⟩,htk,hsc'⟩;refine Az<|An<|An ?_;refine AB ⟨j,vt',tk'⟩ (by dsimp only;omega) ⟨by dsimp only;omega,by dsimp only;omega,hsc.trans hsc'⟩ ⟨J,trivial⟩ (Bg (Bg .nil))
  have hd:DW c=false:=by simpa [ER,hc] using c5
  refine Zs<|Zm ?_;refine ZE ?_;refine Za<|Zx ?_;refine Zd ?_ ?_<;>intro c7
  .have hc10:c.toNat=10:=by simp at c7;omega
   have hst:=Tg (acc:=tk) hc hd hc10;refine Zs<|Zz [3,3] ?_;refine Jj #[_,_,_]<|Az ?_;rw[show((i:Int)+1)=((i+1:Nat):Int) from rfl];refine Aa<|Ak<|Zz [4,1] ?_;refine AU J J (BT Vo J J J (Lc:=Kn gs (.slice (some ad) bs.length cap) vt (i+1) tk) (F:=[]) (.refl _) (fun k hk=>hk) (fun w hw=>G3 hw.self (by omega))) ?_;rintro _ _ ⟨_,⟨rfl,vt',rfl⟩,rfl⟩;rw[show((i+1:Nat):Int)-1=(i:Int) by omega];refine Az<|An<|An ?_;refine AB ⟨i+1,vt',tk++[⟨2,i,(i+1:Nat),0⟩]⟩ (by dsimp only;omega) ⟨by dsimp only;omega,by simp;omega,hsc.trans hst⟩ ⟨J,trivial⟩ (Bg (Bg .nil))
  have hc10:c.toNat≠10:=by simp at c7;omega
  refine Zs<|Zm ?_;refine ZE ?_;refine Zm ?_;refine AM 62 J (fun k10_2=>?_) (fun k10_2=>?_)
  .refine Zz [8]<|Zx ?_;refine Bn J<|Ak ?_;refine Zz [3,3] ?_;refine Jj #[_,_,_]<|Az ?_;rw[show((i:Int)+1)=((i+1:Nat):Int) from rfl];refine An<|An ?_;refine AB ⟨i+1,vt,tk⟩ (by dsimp only;omega) ⟨by dsimp only;omega,by dsimp only;omega,hsc.trans (Km hc hd hc10 ?_)⟩ ⟨J,trivial⟩ (Bg (Bg .nil))
   first
   | (simp at k10_2;omega)
   | (simp at k10_6;omega)
   | (simp at c10;omega)
  refine Zm ?_;refine ZE ?_;refine Zz [2] ?_;refine AM 66 J (fun k10_6=>?_) (fun k10_6=>?_)
  .refine Zz [4]<|Zx ?_;refine Bn J<|Ak ?_;refine Zz [3,3] ?_;refine Jj #[_,_,_]<|Az ?_;rw[show((i:Int)+1)=((i+1:Nat):Int) from rfl];refine An<|An ?_;refine AB ⟨i+1,vt,tk⟩ (by dsimp only;omega) ⟨by dsimp only;omega,by dsimp only;omega,hsc.trans (Km hc hd hc10 ?_)⟩ ⟨J,trivial⟩ (Bg (Bg .nil))
   first
   | (simp at k10_2;omega)
   | (simp at k10_6;omega)
   | (simp at c10;omega)
  refine Zm ?_;refine ZE ?_;refine Zz [2]<|Zx ?_;refine Zd ?_ ?_<;>intro c10
  .refine Ak<|Zz [3,3] ?_;refine Jj #[_,_,_]<|Az ?_;rw[show((i:Int)+1)=((i+1:Nat):Int) from rfl];refine An<|An ?_;refine AB ⟨i+1,vt,tk⟩ (by dsimp only;omega) ⟨by dsimp only;omega,by dsimp only;omega,hsc.trans (Km hc hd hc10 ?_)⟩ ⟨J,trivial⟩ (Bg (Bg .nil))
   first
   | (simp at k10_2;omega)
   | (simp at k10_6;omega)
   | (simp at c10;omega)
  refine Ak<|Zz [3,0] ?_;refine ZS #[_,_] Vx ?_;refine Zo (I4 (v:=QR i 11) J J (fun w=>by kernel_rfl)) ?_;refine CN.panic J J J ?_;refine AQ<|AQ<|AI<|AQ<|AI<|?_;exact BR ⟨i,11,J,hsc.trans (V4 hc hd hc10 (by simp at k10_2 k10_6 c10;omega))⟩
 refine AN<|Ag<|Ag<|Aq<|Aa<|Ak<|Zz [4,0] ?_;refine AU J J (BT Vo J J J (Lc:=Kn gs (.slice A bs.length cap) vt i tk) (F:=[]) (.refl _) (fun k hk=>hk) (fun w hw=>G3 hw.self (by omega))) ?_;rintro _ _ ⟨_,⟨rfl,vt',rfl⟩,rfl⟩;refine Az ?_;refine Ga (.inr J) (BQ (.inr J) J ?_);have hil:i=bs.length:=by simp at c2;omega
 refine⟨J,vt',i,_,A1O _,?_,by simp;omega⟩;rw[hsc,V3 (by omega) (by omega)]
theorem Nt{v e:Int}{x y z:Value}{ga gb gc:Nat}{w:World}(hO:AR w [ga,gb,gc] w [AC ga 139 #[x],AC gb 3 #[y],AC gc 29 #[z]]):
  CallsD A1c 102 #[Pv ga,Pv gb,Pv gc] (.panicking (F1 (QR v e))) w
   fun e' u' w'=>u'= .panicking [{ v:=QR v e,recovered:=true }]/\Ret w [ga,gb,gc] (fun r M=>M=[AC ga 139 #[Nv],AC gb 3 #[Iv v],AC gc 29 #[Iv e]]) e' w':=by
 refine Ht (args:=[_,_,_]) Tryz.func102 J Tryz.ntmps102 J J J J J J J J (.some _ []) hO<|Zs ?_;refine Zm ?_;refine Zo (UT (b:=true) J J J (fun w=>by kernel_rfl))<|Zx ?_;refine Bn J<|Zs ?_;refine Zm ?_;refine Zo (Fg (v:=.tuple #[.agg #[Iv v,Iv e],.bool true]) J J (fun w=>by kernel_rfl)) ?_;refine Zz [3] ?_;refine ZA ze205 fun g4=>?_;refine Zq #[_,_] ?_;refine Za<|Zx<|Ai<|Zs ?_;refine Zz [2]<|Zx ?_;refine BN J<|Ao<|Aa ?_;refine Fw 3330000 (od 7) ([AC g4 205 #[Iv v,Iv e]]) (PK (Bg .nil)) ?_;refine Yz [1] ?_;refine BG J J J (AG J J CA (B0 J)) ?_;refine Yz [1] ?_;refine BG J J J (AG J J W1 (B0 J)) ?_;refine AO J J J J (AP (cs':=#[_]) J J J sz139 J (A1f J) J) (PK (Bg .nil)) ?_;refine AO J J J J (AP (cs':=#[_]) J J J Bw J (A1f J) J) (PK (Bg .nil)) ?_;refine AO J J J J (AP (cs':=#[_]) J J J sz29 J (A1f J) J) (PK (Bg .nil)) ?_;refine AF J ?_;simp only[zq,zr];refine AZ (E':=[]) trivial (BC (BC (BC .nil))) ?_;refine BQ (.inr J) J ?_
 rfl
theorem Nu{x y z:Value}{ga gb gc:Nat}{w:World}(hO:AR w [ga,gb,gc] w [AC ga 139 #[x],AC gb 3 #[y],AC gc 29 #[z]]):
  CallsD A1c 102 #[Pv ga,Pv gb,Pv gc] .returning w
   fun e' u' w'=>u'= .returning/\Ret w [ga,gb,gc] (fun r M=>M=[AC ga 139 #[x],AC gb 3 #[y],AC gc 29 #[z]]) e' w':=by
 refine Ht (args:=[_,_,_]) Tryz.func102 J Tryz.ntmps102 J J J J J J J J .none hO<|Zs ?_;refine Zm ?_;refine Zo (Rj (b:=false) J J (fun w=>by kernel_rfl))<|Zx ?_;refine BN J<|Ao ?_;refine BQ (.inr J) J ?_
 rfl
theorem own3{w0 w:World}{K:List Nat}{ga gb gc t t' t'':Nat}{x y z:Array Value}{F:List Chunk}(h:AR w0 K w (AC ga t x::AC gb t' y::AC gc t'' z::F)):AR w [ga,gb,gc] w [AC ga t x,AC gb t' y,AC gc t'' z]:=
 (h.sub (L':=[AC ga t x,AC gb t' y,AC gc t'' z]) (by simp)).self
def ScanR(bs:List UInt8)(r:Value)(M:List Chunk):Prop:=
 (∃tk vt,FB bs= .ok tk/\tk.length<=33554433/\r= .tuple #[vt,Iv 0,Iv 0]/\M=[Bf vt 146 4 (GD tk)])\/
 (∃a e,FB bs= .bad a e/\r= .tuple #[Nv,Iv a,Iv e]/\M=[])
theorem Ur{vb:Value}{bs:List UInt8}{w:World}(hB:OQ w vb bs):
  Calls A1c 59 #[vb] w (Ret w [] (ScanR bs)):=by
 have ho:ByO vb bs []:=fun _ _ _ _ _ h=>by simp at h
 obtain⟨A,cb,hvb⟩:=hB.len;subst hvb;refine OI (K:=[]) (args:=[_]) (L:=[]) Tryz.func59 J Tryz.ntmps59 J (B8 _ _)<|Zs ?_;refine ZA ze139 fun g2=>?_;refine ZA C6 fun g3=>?_;refine ZA ze29 fun g4=>Zx<|Zs ?_;refine Zo (Fu J J J) ?_;refine CN.defer J J J J<|Zx<|Zs ?_;refine Zm ?_;refine ZS #[_,_,_] bs209 ?_;refine ZB fun g9=>?_;refine Za<|Zx<|Ai ?_;refine DC.own (fun w hw=>Ck (t:=146) (m:=4) hw)<|Ak ?_;refine Zm ?_;refine GQ J J en103 J J J (Lc:=Kn g9 (.slice A bs.length cb) (Nv) 0 []) (F:=[AC g4 29 #[Iv 0],AC g3 3 #[Iv 0],AC g2 139 #[Nv]]) (.swap _ _ _) (fun k hk=>hk) (fun w hw=>Th (hw.pick (L':=Kn g9 (.slice A bs.length cb) (Nv) 0 []) (BC (Bg .nil))).self (hB.keep ho hw) (ByO.step hB ho (hw.pick (L':=Kn g9 (.slice A bs.length cb) (Nv) 0 []) (BC (Bg .nil))))) ?_ ?_
 .rintro pv M ⟨a,e,rfl,hsc⟩;refine AI<|?_;refine Nh ?_;refine HC (f:=102) (cap:=[Pv g2,Pv g3,Pv g4]) (Lc:=[AC g2 139 #[Nv],AC g3 3 #[Iv 0],AC g4 29 #[Iv 0]]) (F:=M) en102 (by simp) J
   ((A1v (l₁:=M)).trans (List.Perm.append_right M (List.reverse_perm [AC g2 139 #[Nv],AC g3 3 #[Iv 0],AC g4 29 #[Iv 0]]))) (fun k hk=>by simpa [AC] using hk) (fun w' hw=>Nt (own3 (hw.perm ((A1v (l₁:=M)).trans (List.Perm.append_right M (List.reverse_perm [AC g2 139 #[Nv],AC g3 3 #[Iv 0],AC g4 29 #[Iv 0]]))).symm))) ?_;rintro r L' rfl a' w' ha hw;have e2:a'.tmps.getD 2 undef= Pv g2:=by have:=ha.ev (x:=.tmp 2) (v:=Pv g2) rfl;simpa only[Act.eval] using this
  have e3:a'.tmps.getD 3 undef= Pv g3:=by have:=ha.ev (x:=.tmp 3) (v:=Pv g3) rfl;simpa only[Act.eval] using this
  have e4:a'.tmps.getD 4 undef= Pv g4:=by have:=ha.ev (x:=.tmp 4) (v:=Pv g4) rfl;simpa only[Act.eval] using this
  exact⟨_,N7 J e2 e3 e4 (DF (hw.holds (AC g2 139 #[Nv]) (by simp)) ag139 J) (DF (hw.holds (AC g3 3 #[Iv a]) (by simp)) CA J) (DF (hw.holds (AC g4 29 #[Iv e]) (by simp)) W1 J),
   _,[],rfl,.inr ⟨a,e,hsc,rfl,rfl⟩,hw.sub (by simp)⟩
 rintro _ _ ⟨rfl,vt',j,tk',rfl,hsc,htl⟩;unfold Kn;simp only[zs];refine Zx<|Ai ?_;refine DC.shape 1 J ?_;rintro⟨A5,l5,c5,rfl⟩;refine Ak<|Zz [3,0] ?_;refine Jj #[_] ?_;refine Jj #[_] ?_;refine Jj #[_]<|Zx<|At ?_;refine SR ?_;let ca:=Bf (.slice A5 l5 c5) 146 4 (GD tk');let cc:=AC g9 209 #[.slice A bs.length cb,Iv j,(.slice A5 l5 c5)];refine HC (f:=102) (cap:=[Pv g2,Pv g3,Pv g4]) (Lc:=[AC g2 139 #[.slice A5 l5 c5],AC g3 3 #[Iv 0],AC g4 29 #[Iv 0]]) (F:=[ca,cc]) en102 (by simp) J
  (List.reverse_perm [AC g2 139 #[.slice A5 l5 c5],AC g3 3 #[Iv 0],AC g4 29 #[Iv 0],ca,cc]) (fun k hk=>by simpa [AC] using hk) (fun w' hw=>Nu (own3 (hw.perm (List.reverse_perm [AC g2 139 #[.slice A5 l5 c5],AC g3 3 #[Iv 0],AC g4 29 #[Iv 0],ca,AC g9 209 #[.slice A bs.length cb,Iv j,.slice A5 l5 c5]]).symm))) ?_;rintro r L' rfl a' w' ha hw;have e2:a'.tmps.getD 2 undef= Pv g2:=by have:=ha.ev (x:=.tmp 2) (v:=Pv g2) rfl;simpa only[Act.eval] using this
 have e3:a'.tmps.getD 3 undef= Pv g3:=by have:=ha.ev (x:=.tmp 3) (v:=Pv g3) rfl;simpa only[Act.eval] using this
 have e4:a'.tmps.getD 4 undef= Pv g4:=by have:=ha.ev (x:=.tmp 4) (v:=Pv g4) rfl;simpa only[Act.eval] using this
 exact⟨_,N7 J e2 e3 e4 (DF (hw.holds (AC g2 139 #[.slice A5 l5 c5]) (by simp)) ag139 J) (DF (hw.holds (AC g3 3 #[Iv 0]) (by simp)) CA J) (DF (hw.holds (AC g4 29 #[Iv 0]) (by simp)) W1 J),
  _,[ca],rfl,.inl ⟨tk',(.slice A5 l5 c5),hsc,htl,rfl,rfl⟩,hw.sub (by simp)⟩
def TP(gr:Nat)(vp:Value)(s:W4)(vl:Value)(tk:List Tk):List Chunk:=
 [AC gr 143 #[Iv s.n,vp,.bool s.hd,Iv s.m],Bf vp 149 2 (Cj s.ps),Bf vl 146 4 (GD tk)]
def LineR(gr:Nat)(s:W4)(vl:Value)(tk:List Tk)(r:Value)(M:List Chunk):Prop:=
 (∃s' vp',DV s tk= .ok s'/\r= .agg #[Iv 0,Iv 0]/\M=TP gr vp' s' vl tk)\/(∃c a,DV s tk= .bad c a/\c≠0/\r= .agg #[Iv c,Iv a])
theorem Q3{gr:Nat}{vp vl:Value}{s:W4}{tk:List Tk}{w:World}(hO:AR w (AY (TP gr vp s vl tk)) w (TP gr vp s vl tk))(h0:tk≠[])(hl:tk.length<=100000000)(hp:s.ps.length<=100000000):
  Calls A1c 60 #[Pv gr,vl] w (Ret w (AY (TP gr vp s vl tk)) (LineR gr s vl tk)):=by
 obtain⟨A,cl,rfl,hR,hl1,hl2⟩:=O0 hO 2 rfl;obtain⟨t,tr,rfl⟩:∃t tr,tk=t::tr:=by cases tk with|nil=>exact absurd rfl h0|cons a b=>exact⟨a,b,rfl⟩
 obtain⟨ad,rfl,_⟩:=hR.tk (i:=0) rfl;obtain⟨Ap,cp,rfl,_⟩:=FG hO 1 rfl (by omega);refine BO (args:=[_,_]) Tryz.func60 J Tryz.ntmps60 J hO ?_;unfold TP;refine Zs ?_;refine ZA VO fun g4=>Zx<|Ai<|Zs ?_;refine Zz [3,1]<|Zx ?_;refine Zd ?_ ?_<;>intro c1
 .have hh:s.hd=false:=by simpa using c1
  refine Ai<|As<|Zs<|Zz [4]<|Zx ?_;refine Zd ?_ ?_<;>intro c2
  .have hr:tr.length≠1:=by simp at c2;omega
   refine Zs<|Zm ?_;refine Zo (Bz (ad':=ad.add (0*4)) J J J Tryz.underlying139 Ev (by omega) (by simp) J) ?_;refine Zz [1] ?_;refine Zu (AG J J CA (F5 (i:=3) (j:=0) J J 1 J)) ?_;refine ZS #[_,_] KM ?_;refine Zq #[_,_]<|Zx<|At<|Am<|Ad<|Ad ?_;refine Co (cs:=#[_,_]) (.inl J) J J Ig G1 ?_;refine⟨_,fun w hw=>hw,.inr ⟨20,t.fr,?_,by decide,J⟩⟩;unfold DV;simp only[hh,if_true];split
   .simp at hr
   rfl
  have hr:tr.length=1:=by simp at c2;omega
  obtain⟨u,rfl⟩:=List.length_eq_one_iff.1 hr;refine Zs<|Zm ?_;refine Zo (Bz (ad':=ad.add (0*4)) J J J Tryz.underlying139 Ev (by omega) (by simp) J) ?_;refine Zz [1] ?_;refine Zu (AG J J CA (F5 (i:=3) (j:=0) J J 3 J)) ?_;refine Zz [2]<|Zx ?_;refine Zd ?_ ?_<;>intro c4
  .refine Zs<|Zm ?_;refine Zo (Bz (ad':=ad.add (0*4)) J J J Tryz.underlying139 Ev (by omega) (by simp) J) ?_;refine Zz [1] ?_;refine Zu (AG J J CA (F5 (i:=3) (j:=0) J J 1 J)) ?_;refine ZS #[_,_] KM ?_;refine Zq #[_,_]<|Zx<|At<|Am<|Ad<|Ad ?_;refine Co (cs:=#[_,_]) (.inl J) J J Ig G1 ?_;refine⟨_,fun w hw=>hw,.inr ⟨21,t.fr,?_,by decide,J⟩⟩;simp at c4;simp[DV,hh,c4]
  refine Zs<|Zm ?_;refine Zo (Bz (ad':=ad.add (1*4)) J J J Tryz.underlying139 Ev (by omega) (by simp) J) ?_;refine Zz [1] ?_;refine Zu (AG J J CA (F5 (i:=3) (j:=1) J J 3 J)) ?_;refine Zz [2]<|Zx ?_;refine Zd ?_ ?_<;>intro c6
  .refine Zs<|Zm ?_;refine Zo (Bz (ad':=ad.add (1*4)) J J J Tryz.underlying139 Ev (by omega) (by simp) J) ?_;refine Zz [1] ?_;refine Zu (AG J J CA (F5 (i:=3) (j:=1) J J 1 J)) ?_;refine ZS #[_,_] KM ?_;refine Zq #[_,_]<|Zx<|At<|Am<|Ad<|Ad ?_;refine Co (cs:=#[_,_]) (.inl J) J J Ig G1 ?_;refine⟨_,fun w hw=>hw,.inr ⟨22,u.fr,?_,by decide,J⟩⟩;simp at c4 c6;simp[DV,hh,c6]
   try omega
  refine Ao<|An<|Aa<|Ai ?_;refine Fw 300300030000000000000 (od 21) ([Bf (.slice (some ad) _ cl) 146 4 (GD [t,u])]) (PK (Et .nil)) ?_;refine Yz [4] ?_;refine Yo J (Bz (ad':=ad.add (0*4)) J J J Tryz.underlying139 Ev (by omega) (by simp) J) ?_;refine Yz [1] ?_;refine BG J J J (AG J J CA (F5 (i:=0) (j:=0) J J 3 J)) ?_;refine Ym ?_;refine Yo J (Bz (ad':=ad.add (1*4)) J J J Tryz.underlying139 Ev (by omega) (by simp) J) ?_;refine Yz [1] ?_;refine BG J J J (AG J J CA (F5 (i:=0) (j:=1) J J 3 J)) ?_;refine Yz [2] ?_;refine AO J J J J (AP (cs':=#[_,_,_,_]) J J J sz4 J (A1f J) J) (PK (Et .nil)) ?_;refine Yz [3] ?_;refine AO J J J J (AP (cs':=#[_,_,_,_]) J J J Bw J (A1f J) J) (PK (Et .nil)) ?_;refine Yz [2] ?_;refine AO J J J J (AP (cs':=#[_,_,_,_]) J J J Bw J (A1f J) J) (PK (Et .nil)) ?_;refine AF J ?_;simp only[zq,zr];refine Aa<|Zs ?_;refine ZS #[_,_] KM ?_;refine Zq #[_,_]<|Zx<|At<|Ad ?_;refine Co (cs:=#[_,_]) (.inl J) J J Ig G1 ?_;refine⟨_,fun w hw=>hw.pick (BC (BC (BC .nil))),.inl ⟨⟨t.nu,s.ps,true,u.nu⟩,_,?_,J,J⟩⟩;simp at c4 c6;simp[DV,hh,show ¬1048576<t.nu by omega,show ¬2097152<u.nu by omega]
 have hh:s.hd=true:=by simpa using c1
 refine Ao<|Aa<|Ai<|As<|Ai ?_;refine Fv 1000010000 12 ?_;refine Yz [4,0] ?_;refine Yo J (EC J J Tryz.underlying71) ?_;refine Yz [3,2] ?_;refine AF J ?_;simp only[zq,zr];refine Aa ?_;refine Zd ?_ ?_<;>intro c10
 .have hm:s.m<=s.ps.length:=by simp at c10;omega
  refine Zs<|Zm ?_;refine Zo (Bz (ad':=ad.add (0*4)) J J J Tryz.underlying139 Ev (by omega) (by simp) J) ?_;refine Zz [1] ?_;refine Zu (AG J J CA (F5 (i:=3) (j:=0) J J 1 J)) ?_;refine ZS #[_,_] KM ?_;refine Zq #[_,_]<|Zx<|At<|Am<|Ad ?_;refine Co (cs:=#[_,_]) (.inl J) J J Ig G1 ?_;refine⟨_,fun w hw=>hw,.inr ⟨26,t.fr,?_,by decide,J⟩⟩;simp[DV,hh,hm]
 have hm:¬s.m<=s.ps.length:=by simp at c10;omega
 refine Zs<|Zz [4]<|Zx ?_;refine Zd ?_ ?_<;>intro c12
 .have hr:tr.length≠1:=by simp at c12;omega
  refine Zs<|Zm ?_;refine Zo (Bz (ad':=ad.add (0*4)) J J J Tryz.underlying139 Ev (by omega) (by simp) J) ?_;refine Zz [1] ?_;refine Zu (AG J J CA (F5 (i:=3) (j:=0) J J 1 J)) ?_;refine ZS #[_,_] KM ?_;refine Zq #[_,_]<|Zx<|At<|Am<|Ad ?_;refine Co (cs:=#[_,_]) (.inl J) J J Ig G1 ?_;refine⟨_,fun w hw=>hw,.inr ⟨23,t.fr,?_,by decide,J⟩⟩
  match tr,hr with
  | [],_=>simp[DV,hh,hm]
  | _::_::_,_=>simp[DV,hh,hm]
  | [_],h=>exact absurd rfl h
 have hr:tr.length=1:=by simp at c12;omega
 obtain⟨u,rfl⟩:=List.length_eq_one_iff.1 hr;refine Ao<|An<|Aa<|Ai<|Zs<|Zz [3]<|Zx<|As ?_;let ca:=AC g4 51 #[Iv 0,Iv 0];let cb:=AC gr 143 #[Iv s.n,.slice Ap s.ps.length cp,.bool s.hd,Iv s.m];let cc:=Bf (.slice Ap s.ps.length cp) 149 2 (Cj s.ps);refine AS (ι:=Nat) (fun j=>j<=2/\∀(p:Nat) k,p<j->[t,u][p]? =some k->k.nu<s.n)
  (fun j=>[(0,Pv gr),(1,.slice (some ad) _ cl),(4,Pv g4),(88,.slice (some ad) _ cl),(89,Iv 2),(90,Iv j)])
  (fun j=>[ca,cb,cc,Bf (.slice (some ad) _ cl) 146 4 (GD [t,u])]) (fun j=>2-j) 0 ⟨by omega,fun p k h=>by omega⟩ ⟨J,J,J,J,J,J,trivial⟩ (Bg (Bg (Bg (Bg .nil)))) ?_;rintro j ⟨hj,hall⟩;refine Zs<|Zc<|Zx<|Ai ?_;refine Zd ?_ ?_<;>intro c15
 .have hj2:j<2:=by simp at c15;omega
  obtain⟨k,hk⟩:∃k,[t,u][j]? =some k:=⟨_,A1d hj2⟩;refine Ao<|Aa<|Ai<|As<|Zs ?_;refine Zo (Bz (ad':=ad.add (j*4)) J J J Tryz.underlying139 Ev (by omega) (by simp;omega) (by rw[A1g])) ?_;refine Zu (A4 (vs:=[_,_,_,_]) J J ag146 Ev J (PP (i:=3) J hk)) ?_;refine ZA NQ fun g6=>?_;refine Zq #[_,_,_,_]<|Zx<|Ai ?_;refine Fv 1000010 8 ?_;refine Yz [1,4,1] ?_;refine AF J ?_;simp only[zq,zr];refine Aa ?_;refine Zd ?_ ?_<;>intro c17
  .refine Zs<|Zz [1,0] ?_;refine ZS #[_,_] KM ?_;refine Zq #[_,_]<|Zx<|At<|Am<|Ad<|Ad<|Am<|Ad ?_;refine Co (cs:=#[_,_]) (.inl J) J J Ig G1 ?_;refine⟨_,fun w hw=>hw,.inr ⟨24,k.fr,?_,by decide,J⟩⟩;have hn:s.n<=k.nu:=by simpa using c17
   match j,hj2,hk with
   | 0,_,hk=>cases hk;simp[DV,hh,hm,hn]
   | 1,_,hk=>
    cases hk;have h1:=hall 0 t (by omega) rfl;simp[DV,hh,hm,hn,show ¬s.n<=t.nu by omega]
  refine Ao<|An<|Aa<|Ak<|Zz [2]<|Az ?_;refine AB (j+1) (by omega) ⟨by omega,fun p k' h1 h2=>?_⟩ ⟨J,J,J,J,J,J,trivial⟩ (BC (BC (BC (BC .nil))));by_cases hp:p=j
  .subst hp;rw[hk] at h2;cases h2;simp at c17;omega
  exact hall p k' (by omega) h2
 refine AN<|Ag<|Ag<|Aq<|Aa<|Ai ?_;refine Fv 300032010001000100000 21 ?_;refine Yz [5,1] ?_;refine Yo J (Bz (ad':=ad.add (0*4)) J J J Tryz.underlying139 Ev (by omega) (by simp) J) ?_;refine Yz [1] ?_;refine Yh (F5 (i:=3) (j:=0) J J 3 J) ?_;refine Ym ?_;refine Yo J (Bz (ad':=ad.add (1*4)) J J J Tryz.underlying139 Ev (by omega) (by simp) J) ?_;refine Yz [1] ?_;refine Yh (F5 (i:=3) (j:=1) J J 3 J) ?_;refine Yo J (Pw (cs:=#[Iv t.nu,Iv u.nu]) J J Tryz.underlying149 Bw NP J J J) ?_;refine A8 J J J J (Eo (cs:=#[_,_]) J J Tryz.underlying71 XI NP J (by decide) (by decide) J J) fun g121=>?_;refine C5 (V:=[AC g121 149 #[Iv t.nu,Iv u.nu],ca,cb,cc,Bf (.slice (some ad) _ cl) 146 4 (GD [t,u])]) J J J J J (SP.shape (Bt (F:=[AC g121 _ _,AC g4 _ _,AC gr _ _,Bf _ _ _ _]) (vs:=Cj s.ps) (k:=1) (news:=[Iv t.nu,Iv u.nu]) J J J Tryz.underlying71 XI by149 NP J (by decide) (by decide)
  (PK (Et (Bg (Bg (Bg (Bg .nil)))))) (.inl ⟨_,_,rfl,AW rfl⟩) rfl (by intro u hu;simp at hu;rcases hu with rfl|rfl<;>rfl) (by rw[prs_length];omega))) (fun v L' hC w hw=>hw.pick (.nil)) ?_;rintro _ _ ⟨⟨A11,l11,c11,rfl⟩,rfl⟩;refine Yz [3] ?_;refine AO J J J J (AP (cs':=#[_,_,_,_]) J J J sz71 J (A1f J) J) PN ?_;refine AF J ?_;simp only[zq,zr];refine Aa<|Zs ?_;refine ZS #[_,_] KM ?_;refine Zq #[_,_]<|Zx<|At ?_;refine Co (cs:=#[_,_]) (.inl J) J J Ig G1 ?_;have hj2:j=2:=by simp at c15;omega
 have h1:=hall 0 t (by omega) rfl;have h2:=hall 1 u (by omega) rfl;refine⟨_,fun w hw=>hw.pick (Et (Bg (CY .nil))),.inl ⟨⟨s.n,s.ps++[(t.nu,u.nu)],true,s.m⟩,.slice A11 l11 c11,?_,J,?_⟩⟩
 .simp[DV,hh,hm,show ¬s.n<=t.nu by omega,show ¬s.n<=u.nu by omega]
 simp[TP,Dc,Cj,hh]
theorem Pf{gr:Nat}{vp vl:Value}{s:W4}{tk:List Tk}{w:World}(hO:AR w (AY (TP gr vp s vl tk)) w (TP gr vp s vl tk))(h0:tk≠[])(hl:tk.length<=100000000)(hp:s.ps.length<=100000000):
  Calls A1c 60 #[Pv gr,vl] w (Ret w (AY (TP gr vp s vl tk)) fun r M=>∃c a,r= .agg #[Iv c,Iv a]/\
   ((c=0/\∃s' vp',DV s tk= .ok s'/\M=TP gr vp' s' vl tk)\/(c≠0/\DV s tk= .bad c a))):=by
 refine Calls.mono (Q3 hO h0 hl hp) ?_;rintro e w' ⟨v,L',rfl,⟨s',vp',h1,rfl,rfl⟩|⟨c,a,h1,h2,rfl⟩,hO⟩
 .exact⟨_,_,J,⟨0,0,J,.inl ⟨J,s',vp',h1,J⟩⟩,hO⟩
 exact⟨_,_,J,⟨c,a,J,.inr ⟨h2,h1⟩⟩,hO⟩
theorem SM{vb:Value}{bs:List UInt8}{w:World}(hB:OQ w vb bs):
  Calls A1c 59 #[vb] w (Ret w [] fun r M=>∃tk A c a e,r= .tuple #[.slice A tk.length c,Iv a,Iv e]/\M=[Bf (.slice A tk.length c) 146 4 (GD tk)]/\tk.length<=33554433/\(tk≠[]->∃ad,A=some ad)/\((e=0/\FB bs= .ok tk)\/(e≠0/\FB bs= .bad a e))):=by
 refine Calls.mono (Ur hB) ?_;rintro e w' ⟨v,L',rfl,⟨tk,vt,hsc,htl,rfl,rfl⟩|⟨a,e,hsc,rfl,rfl⟩,hO⟩
 .obtain⟨A,c,rfl,hR,_⟩:=O0 hO 0 rfl;refine⟨_,_,J,⟨tk,A,c,0,0,J,J,htl,fun hne=>?_,.inl ⟨J,hsc⟩⟩,hO⟩;obtain⟨k,hk⟩:∃k,tk[0]? =some k:=⟨_,A1d (A2k.2 hne)⟩;obtain⟨ad,e,_⟩:=hR.tk hk;exact⟨ad,e⟩
 exact⟨_,_,J,⟨[],none,0,a,e,J,J,by simp,fun h=>absurd J h,.inr ⟨V5 hsc,hsc⟩⟩,Ck hO⟩
structure FeI where
 s:W4
 l:List Tk
 j:Nat
 vp:Value
 vl:Value
def RawR(bs:List UInt8)(r:Value)(M:List Chunk):Prop:=
 (∃n ps vp,Md bs= .ok n ps/\ps.length<=33554433/\r= .tuple #[.agg #[Iv n,vp],.agg #[Iv 0,Iv 0]]/\M=[Bf vp 149 2 (Cj ps)])\/
 (∃c a,Md bs= .bad c a/\c≠0/\r= .tuple #[.agg #[Iv 0,Nv],.agg #[Iv c,Iv a]]/\M=[])
theorem W5{vb:Value}{bs:List UInt8}{w:World}(hB:OQ w vb bs):
  Calls A1c 26 #[vb] w (Ret w [] (RawR bs)):=by
 have ho:ByO vb bs []:=fun _ _ _ _ _ h=>by simp at h
 obtain⟨Ab,cb,rfl⟩:=hB.len;refine BO (K:=[]) (args:=[_]) (L:=[]) Tryz.func26 J Tryz.ntmps26 J (B8 _ _)<|Zs ?_;refine ZA ze73 fun g2=>?_;refine ZA VO fun g3=>Zx ?_;refine DC.scope<|Ai<|Zs ?_;refine Zz [3]<|Zx ?_;refine Zd ?_ ?_<;>intro c1
 .refine Zs ?_;refine ZS #[_,_] ZR ?_;refine ZS #[_,_] KM ?_;refine Zq #[_,_] ?_;refine Zq #[_,_]<|Zx<|At<|Ad<|Ci ?_;refine E6 (cs:=#[_,_]) (cs':=#[_,_]) (.inl J) J J J W0 Ta Ig G1 ?_;refine⟨[],fun w hw=>hw.pick .nil,.inr ⟨10,16777216,?_,by decide,J,J⟩⟩;have:16777216<bs.length:=by simp at c1;omega
  simp[Md,this]
 have hlen:¬16777216<bs.length:=by simp at c1;omega
 refine Ao<|Aa<|Zs<|Zm ?_;let ca:=AC g3 51 #[Iv 0,Iv 0];let cd:=AC g2 73 #[Iv 0,Nv];refine AU J J (BT en59 J J J (Lc:=[]) (F:=[ca,cd]) (.refl _) (fun k hk=>by simp at hk) (fun w hw=>SM (hB.keep0 hw))) ?_;rintro _ _ ⟨_,⟨tk,A,c,a,e,rfl,rfl,htl,hA,hsc⟩,rfl⟩;refine Zz [7]<|Zx<|Ai<|Ai ?_;simp only[zs];refine Ak<|Zz [2]<|Zx ?_;refine Zd ?_ ?_<;>intro c4
 .have hbad:FB bs= .bad a e/\e≠0:=by
   rcases hsc with⟨rfl,_⟩|⟨h1,h2⟩
   .simp at c4
   exact⟨h2,h1⟩
  refine Zs ?_;refine ZS #[_,_] ZR ?_;refine Zz [2] ?_;refine ZS #[_,_] KM ?_;refine Zq #[_,_] ?_;refine Zq #[_,_]<|Zx<|At<|Ad<|Ci ?_;refine E6 (cs:=#[_,_]) (cs':=#[_,_]) (.inl J) J J J W0 Ta Ig G1 ?_;refine⟨[],fun w hw=>hw.pick .nil,.inr ⟨e,a,?_,hbad.2,J,J⟩⟩;simp[Md,hlen,hbad.1]
 have hok:FB bs= .ok tk:=by
  rcases hsc with⟨_,h2⟩|⟨h1,h2⟩
  .exact h2
  simp at c4;exact absurd c4.symm (fun h=>h1 h.symm)
 have hrw:Md bs=WK bs.length (Ex ⟨0,[],false,0⟩ [] tk):=by simp[Md,hlen,hok]
 refine Ao<|Aa<|Zs ?_;refine ZA ze143 fun g7=>Zx<|Zs ?_;refine Za<|Zx<|Ai<|DC.label<|Aa ?_;refine DC.cut (ι:=FeI) (fun i=>Ex ⟨0,[],false,0⟩ [] tk= .ok i.s/\i.s.ps.length<=33554433) (fun i=>[(0,.slice Ab bs.length cb),(2,Pv g2),(3,Pv g3),(7,Pv g7)])
  (fun i=>[AC g7 143 #[Iv i.s.n,i.vp,.bool i.s.hd,Iv i.s.m],Bf i.vp 149 2 (Cj i.s.ps),ca,cd]) ?first ?rest
 case first=>
  refine Ai ?_;refine DC.own (fun w hw=>Ck (t:=146) (m:=4) (Ck (t:=149) (m:=2) hw))<|Ak ?_;refine Zz [3]<|Zx<|As ?_;refine AS (ι:=FeI) (fun i=>Ex ⟨0,[],false,0⟩ [] tk=Ex i.s i.l (tk.drop i.j)/\i.j<=tk.length/\i.s.ps.length<=i.j/\i.l.length<=i.j)
   (fun i=>[(0,.slice Ab bs.length cb),(2,Pv g2),(3,Pv g3),(7,Pv g7),(8,i.vl),(29,.slice A tk.length c),(30,Iv tk.length),(31,Iv (i.j:Nat))])
   (fun i=>[AC g7 143 #[Iv i.s.n,i.vp,.bool i.s.hd,Iv i.s.m],Bf i.vp 149 2 (Cj i.s.ps),Bf i.vl 146 4 (GD i.l),ca,cd,Bf (.slice A tk.length c) 146 4 (GD tk)]) (fun i=>tk.length-i.j)
   ⟨⟨0,[],false,0⟩,[],0,Nv,Nv⟩ ⟨rfl,by simp,by simp,by simp⟩ ⟨rfl,rfl,rfl,rfl,rfl,rfl,rfl,rfl,trivial⟩ (CY (BC (Bg (BC (BC (Bg .nil)))))) ?_;rintro⟨s,l,j,vp,vl⟩ ⟨hfe,hj,hpl,hll⟩;dsimp only at hfe hj hpl hll ⊢;refine Zs<|Zc<|Zx<|Ai ?_;refine Zd ?_ ?_<;>intro c9
  .have hj9:j<tk.length:=by simpa using c9
   obtain⟨k,hk⟩:∃k,tk[j]? =some k:=⟨_,A1d hj9⟩;obtain⟨ad,rfl⟩:=hA (fun e=>by rw[e] at hj9;simp at hj9);have hdr:tk.drop j=k::tk.drop (j+1):=by rw[A2e hj9];congr 1;exact(A1e.1 hk).2
   rw[hdr] at hfe;refine Ao<|Aa<|Ai<|As<|Zs ?_;refine Zo (Bz (ad':=ad.add (j*4)) J J J Tryz.underlying139 Ev (by omega) (by omega) (by rw[A1g])) ?_;refine Zu (A4 (vs:=[_,_,_,_]) J J ag146 Ev J (PP (i:=5) J hk)) ?_;refine ZA NQ fun g10=>?_;refine Zq #[_,_,_,_]<|Zx<|Ai<|Zs ?_;refine Zz [1,1]<|Zx ?_;refine Zd ?_ ?_<;>intro c11
   .have hk1:k.kd=1:=by simpa using c11
    refine Zs<|Zm ?_;refine CR [_,_,_,_] ?_;refine ZL #[_,_,_,_] Tryz.underlying139 Ev NQ fun g40=>?_;refine AU J J (SP.shape (Bt (F:=[AC g40 _ _,AC g10 _ _,AC g7 _ _,Bf _ _ _ _,AC g3 _ _,AC g2 _ _,Bf _ _ _ _]) (vs:=GD l) (k:=1) (news:=[Iv k.kd,Iv k.fr,Iv k.en,Iv k.nu]) J J J Tryz.underlying139 Ev by146 NQ J (by decide) (by decide)
     (PK (LQ (Bg (Bg (Bg (Bg (Bg (Bg (Bg .nil))))))))) (.inl ⟨_,_,rfl,AW rfl⟩) rfl (by intro u hu;simp at hu;rcases hu with rfl|rfl|rfl|rfl<;>rfl) (by rw[tks_length];omega))) ?_;rintro _ _ ⟨⟨A11,l11,c11',rfl⟩,rfl⟩;refine Za<|Zx<|AN<|Ag<|Aq<|Aa<|Ak ?_;refine Zz [2]<|Az ?_;refine AB ⟨s,l++[k],j+1,vp,.slice A11 l11 c11'⟩ (by dsimp only;omega) ⟨hfe.trans (WE hk1),by dsimp only;omega,by dsimp only;omega,by simp;omega⟩ ⟨J,J,J,J,J,J,J,J,trivial⟩ (Et (Et (.cons' 0 J (by rw[LX];rfl) (CY (CY (CY .nil))))))
   have hk1:k.kd≠1:=by simpa using c11
   refine Ao<|Aa<|Ai<|Ai ?_;refine Xd 3 J ?_;rintro⟨Al,cl,rfl⟩;refine Ak<|Zz [3]<|Zx ?_;refine Zd ?_ ?_<;>intro c13
   .have hl0:l≠[]:=by rintro rfl;simp at c13
    refine Ai<|Zs<|Zm ?_;refine AU J J (BT en60 J J J (Lc:=TP g7 vp s (.slice Al l.length cl) l) (F:=[AC g10 146 #[Iv k.kd,Iv k.fr,Iv k.en,Iv k.nu],ca,cd,Bf (.slice (some ad) tk.length c) 146 4 (GD tk)]) (A2V (a:=AC g10 146 #[Iv k.kd,Iv k.fr,Iv k.en,Iv k.nu]) (l₁:=TP g7 vp s (.slice Al l.length cl) l)).symm (fun k hk=>hk) (fun w hw=>Pf (hw.pick (L':=TP g7 vp s (.slice Al l.length cl) l) (BC (BC (BC .nil)))).self hl0 (by omega) (by omega))) ?_;rintro _ _ ⟨M',⟨cc,aa,rfl,hln⟩,rfl⟩;refine CN.own (fun w hw=>hw.perm (A1v)) ?_;simp only[zs];refine ZA VO fun g11=>?_;refine Zq #[_,_]<|Zx<|Zs ?_;refine Zz [1,1]<|Zx ?_;refine Zd ?_ ?_<;>intro c15
    .have hbad:DV s l= .bad cc aa/\cc≠0:=by
      rcases hln with⟨rfl,_⟩|⟨h1,h2⟩
      .simp at c15
      exact⟨h2,h1⟩
     refine Ai ?_;refine Fw 3300 (od 4) ([AC g11 51 #[Iv cc,Iv aa]]) (PK (Bg .nil)) ?_;refine Yo J (Dy (cs:=#[_,_]) J J ZR J J) ?_;refine BG J J J (A4 (vs:=[_,_]) J J Ig G1 J (AW J)) ?_;refine AO J J J J (B3 (cs':=#[_,_]) J J J Ta J (A1f J) J) (PK (Bg .nil)) ?_;refine AO J J J J (B3 (cs':=#[_,_]) J J J G1 J (A1f J) J) (PK (Bg .nil)) ?_;refine AF J ?_;simp only[zq,zr];refine Aa<|At<|Ad<|Ad<|Am<|Ad<|Ad<|Am<|Ad<|Ci ?_;refine E6 (cs:=#[_,_]) (cs':=#[_,_]) (.inl J) J J J W0 Ta Ig G1 ?_;refine⟨[],fun w hw=>hw.pick .nil,.inr ⟨cc,aa,?_,hbad.2,J,J⟩⟩;rw[hrw,hfe,WF hk1 hl0 hbad.1];rfl
    obtain⟨s',vp',hs',rfl⟩:∃s' vp',DV s l= .ok s'/\M'=TP g7 vp' s' (.slice Al l.length cl) l:=by
     rcases hln with⟨_,h⟩|⟨h1,h2⟩
     .exact h
     simp at c15;exact absurd c15.symm (fun h=>h1 h.symm)
    have hpl':=Wu hs';refine Ao<|Aa<|Ak<|Zm ?_;refine Zo (FY (hi:=0) J J J Tryz.underlying139 Ev (by omega)) ?_;refine Za<|Az ?_;unfold TP;refine Dl.own (fun w hw=>Wg (m:=4) 7 J (by decide) hw) ?_;simp only[A2Q,A3C];refine Aa<|Zs<|Zz [1,1]<|Zx ?_;refine Zd ?_ ?_<;>intro c18
    .have hk3:k.kd=3:=by simpa using c18
     refine AN<|Fb (by decide)<|Ag<|Ag<|Aq ?_;refine Be ⟨s',[],0,vp',Nv⟩ ⟨hfe.trans (Oy hk1 (.inr ⟨hl0,hs'⟩) hk3),by dsimp only;omega⟩ ⟨J,J,J,J,trivial⟩ (W6 (W6 (Et (Et .nil))))
    have hk3:k.kd≠3:=by simpa using c18
    refine Ao<|An<|Aa<|Ak<|Zz [2]<|Az ?_;refine AB ⟨s',[],j+1,vp',.slice Al 0 cl⟩ (by dsimp only;omega) ⟨hfe.trans (R9 hk1 (.inr ⟨hl0,hs'⟩) hk3),by dsimp only;omega,by dsimp only;omega,by simp⟩ ⟨J,J,J,J,J,J,J,J,trivial⟩ (W6 (W6 (Bg (CY (CY (CY .nil))))))
   have hl0:l=[]:=by simp at c13;exact c13
   refine Ao<|Aa<|Zs<|Zz [1,1]<|Zx ?_;refine Zd ?_ ?_<;>intro c18
   .have hk3:k.kd=3:=by simpa using c18
    refine AN<|Fb (by decide)<|Ag<|Ag<|Aq ?_;refine Be ⟨s,[],0,vp,Nv⟩ ⟨hfe.trans (Oy hk1 (.inl ⟨hl0,J⟩) hk3),by dsimp only;omega⟩ ⟨J,J,J,J,trivial⟩ (BC (BC (CY (CY .nil))))
   have hk3:k.kd≠3:=by simpa using c18
   refine Ao<|An<|Aa<|Ak<|Zz [2]<|Az ?_;subst hl0;refine AB ⟨s,[],j+1,vp,.slice Al ([]:List Tk).length cl⟩ (by dsimp only;omega) ⟨hfe.trans (R9 hk1 (.inl ⟨J,J⟩) hk3),by dsimp only;omega,by dsimp only;omega,by simp⟩ ⟨J,J,J,J,J,J,J,J,trivial⟩ (BC (BC (BC (BC (BC (BC .nil))))))
  refine AN<|Ag<|Ag<|Aq ?_;have hj9:tk.length<=j:=by simp at c9;omega
  rw[List.drop_eq_nil_of_le hj9] at hfe;refine Be ⟨s,[],0,vp,Nv⟩ ⟨hfe,by dsimp only;omega⟩ ⟨J,J,J,J,trivial⟩ (Bg (Bg (BC (BC .nil))))
 rintro⟨s,l',j',vp,vl'⟩ ⟨hfe,hpl⟩;dsimp only at hfe hpl ⊢;refine Xe 1 J (by omega) ?_;rintro⟨Ap,cp,rfl⟩;refine Ai<|As<|Zs<|Zz [1,2]<|Zx ?_;refine Zd ?_ ?_<;>intro c20
 .refine Zs ?_;refine ZS #[_,_] ZR ?_;refine Zz [2] ?_;refine ZS #[_,_] KM ?_;refine Zq #[_,_] ?_;refine Zq #[_,_]<|Zx<|At<|Am<|Ad<|Ci ?_;refine E6 (cs:=#[_,_]) (cs':=#[_,_]) (.inl J) J J J W0 Ta Ig G1 ?_;refine⟨[],fun w hw=>hw.pick .nil,.inr ⟨20,bs.length,?_,by decide,J,J⟩⟩;have hh:s.hd=false:=by simpa using c20
  rw[hrw,hfe];simp[WK,hh]
 have hh:s.hd=true:=by simpa using c20
 refine Zs<|Zz [2,2,2]<|Zx ?_;refine Zd ?_ ?_<;>intro c22
 .refine Zs ?_;refine ZS #[_,_] ZR ?_;refine Zz [2] ?_;refine ZS #[_,_] KM ?_;refine Zq #[_,_] ?_;refine Zq #[_,_]<|Zx<|At<|Am<|Ad<|Ci ?_;refine E6 (cs:=#[_,_]) (cs':=#[_,_]) (.inl J) J J J W0 Ta Ig G1 ?_;refine⟨[],fun w hw=>hw.pick .nil,.inr ⟨25,bs.length,?_,by decide,J,J⟩⟩;have hm:(s.ps.length:Int)<s.m:=by simpa using c22
  rw[hrw,hfe];simp[WK,hh,hm]
 refine Ao<|An<|Aa<|Zs<|Zz [1] ?_;refine CR [_,_] ?_;refine ZS #[_,_] KM ?_;refine Zq #[_,_] ?_;refine Zq #[_,_]<|Zx<|At<|Ci ?_;refine E6 (cs:=#[_,_]) (cs':=#[_,_]) (.inl J) J J J W0 Ta Ig G1 ?_;refine⟨_,fun w hw=>hw.pick (BC .nil),.inl ⟨s.n,s.ps,_,?_,hpl,J,J⟩⟩;have hm:¬(s.ps.length:Int)<s.m:=by simp at c22;omega
 rw[hrw,hfe];simp[WK,hh,hm]
theorem Raw_bad{vb:Value}{bs:List UInt8}{c a:Int}{w:World}(hB:OQ w vb bs)(h:Md bs= .bad c a):
  Calls A1c 26 #[vb] w (Ret w [] fun r M=>M=[]/\c≠0/\r= .tuple #[.agg #[Iv 0,Nv],.agg #[Iv c,Iv a]]):=by
 refine Calls.mono (W5 hB) ?_;rintro e w' ⟨v,L',rfl,⟨n,ps,vp,h1,_⟩|⟨c',a',h1,h2,rfl,rfl⟩,hO⟩
 .rw[h] at h1;cases h1
 rw[h] at h1;cases h1;exact⟨_,_,rfl,⟨rfl,h2,rfl⟩,hO⟩
theorem Z6{vb:Value}{bs:List UInt8}{c a:Int}{w:World}(hB:OQ w vb bs)(h:Md bs= .bad c a):
  Calls A1c 13 #[vb] w (Ret w [] fun r M=>M=[]/\c≠0/\r= .tuple #[.agg #[Iv 0,Nv],.agg #[Iv c,Iv a]]):=by
 refine BO (K:=[]) (args:=[_]) (L:=[]) Tryz.func13 J Tryz.ntmps13 J (B8 _ _)<|Zs ?_;refine ZA SX fun g2=>?_;refine ZA VO fun g3=>Zx<|Zs ?_;refine Zm ?_;refine AL J J (AH en26 J J J (fun w hw=>Raw_bad (hB.keep0 hw) h)) ?_;rintro _ ⟨hc0,rfl⟩;refine Zz [3] ?_;refine ZA ze73 fun g4=>?_;refine ZA VO fun g5=>?_;refine Zq #[_,_] ?_;refine Zq #[_,_]<|Zx<|Ai<|Zs ?_;refine Zz [1,1]<|Zx ?_;refine Zd ?_ ?_<;>intro c2
 .refine Ai ?_;refine Fw 3300 (od 4) ([AC g5 51 #[Iv c,Iv a]]) (PK (Bg .nil)) ?_;refine Yo J (Dy (cs:=#[_,_]) J J Ul J J) ?_;refine BG J J J (A4 (vs:=[_,_]) J J Ig G1 J (AW J)) ?_;refine AO J J J J (B3 (cs':=#[_,_]) J J J G2 J (A1f J) J) (PK (Bg .nil)) ?_;refine AO J J J J (B3 (cs':=#[_,_]) J J J G1 J (A1f J) J) (PK (Bg .nil)) ?_;refine AF J ?_;simp only[zq,zr];refine Aa<|At<|Ad ?_;refine E6 (cs:=#[_,_]) (cs':=#[_,_]) (.inl J) J J J IL G2 Ig G1 ?_;exact⟨[],fun w hw=>hw.pick .nil,J,hc0,J⟩
 exact absurd c2 (by simpa using hc0)
theorem Xh{vb vc:Value}{bs:List UInt8}{c a:Int}{w:World}(hB:OQ w vb bs)(h:Md bs= .bad c a):
  Calls A1c 10 #[vb,vc] w (Ret w [] fun r M=>M=[]/\r= Iv 180):=by
 refine BO (K:=[]) (args:=[_,_]) (L:=[]) Tryz.func10 J Tryz.ntmps10 J (B8 _ _)<|Zs ?_;refine Za<|Zx<|Zs ?_;refine Zm ?_;refine AL J J (AH en13 J J J (fun w hw=>Z6 (hB.keep0 hw) h)) ?_;rintro _ ⟨hc0,rfl⟩;refine Zz [3] ?_;refine ZA SX fun g5=>?_;refine ZA VO fun g6=>?_;refine Zq #[_,_] ?_;refine Zq #[_,_]<|Zx<|Ai<|Zs ?_;refine Zz [1,1]<|Zx ?_;refine Zd ?_ ?_<;>intro c2
 .refine Zs<|Za<|Zx<|At<|Ad ?_;refine DN 4 ?_;refine Zh ?_;exact⟨J,J⟩
 exact absurd c2 (by simpa using hc0)
theorem Jd{w:World}:Calls A1c 9 #[] w (Ret w [] fun r M=>∃g,r= .agg #[Iv 4,Sv g 6]/\M=[AC g 39 (Cj KI).toArray]):=by
 refine BO (K:=[]) (args:=[]) (L:=[]) Tryz.func9 J Tryz.ntmps9 J (B8 _ _)<|Zs ?_;refine ZA SX fun g0=>Zx<|Zs ?_;refine ZS #[_,_] P3 ?_;refine ZS #[_,_] P3 ?_;refine ZS #[_,_] P3 ?_;refine ZS #[_,_] P3 ?_;refine ZS #[_,_] P3 ?_;refine ZS #[_,_] P3 ?_;refine ZL #[_,_,_,_,_,_,_,_,_,_,_,_] A1y CF Fs fun g7=>?_;refine ZS #[_,_] Ul ?_;refine Zq #[_,_]<|Zx<|At ?_;refine Co (cs:=#[_,_]) (.inl J) J J IL G2 ?_;exact⟨_,fun w hw=>hw.pick (Bg .nil),g7,J,J⟩
theorem RE{w0 w:World}{K:List Nat}{L:List Chunk}{g t:Nat}{v0 v1 v2 v3:Value}{l0 l1 l2 l3:List Int}[h:Find L g t #[v0,v1,v2,v3]](hw:AR w0 K w L)(h0:FD w v0 l0)(h1:FD w v1 l1)(h2:FD w v2 l2)(h3:FD w v3 l3):
  IM w (Sv g 4) [l0,l1,l2,l3]:=by
 have hg:=hw.holds _ h.mem;refine⟨some ⟨g,0,none⟩,4,J,fun i l hl=>?_,by simp,by decide,by simp⟩;rcases lt4 hl with⟨rfl,rfl⟩|⟨rfl,rfl⟩|⟨rfl,rfl⟩|⟨rfl,rfl⟩
 .exact⟨_,v0,J,by rw[AX];exact EI hg J,h0⟩
 .exact⟨_,v1,J,by rw[AX];exact EI hg J,h1⟩
 .exact⟨_,v2,J,by rw[AX];exact EI hg J,h2⟩
 exact⟨_,v3,J,by rw[AX];exact EI hg J,h3⟩
theorem UR{w:World}{c:Nat}(hc:c<=9223372036854775807):DX w (.slice none 0 c) []:=⟨none,c,rfl,fun j u h=>by simp[Cj] at h,A1E _,hc,by simp⟩
theorem lsv_nil{w:World}{c:Nat}(hc:c<=9223372036854775807):IM w (.slice none 0 c) []:=⟨none,c,rfl,fun i l h=>by simp at h,A1E _,hc,by simp⟩
theorem QC{w:World}(hp:Qh w):Calls A1c 4 #[] w (Ret w [] fun r M=>M=[]/\r= .bool true):=by
 refine BO (K:=[]) (args:=[]) (L:=[]) Tryz.func4 J Tryz.ntmps4 J (B8 _ _)<|Zs ?_;refine Za<|Zx<|Zs ?_;refine Bk J J (AH en9 J J J (fun w hw=>Jd)) ?_;rintro _ _ ⟨g5,rfl,rfl⟩;simp only[A1K,A1N,A1O];refine ZL #[_,_,_] A1x Bw C6 fun g6=>?_;refine ZL #[_,_,_] A1x Bw C6 fun g7=>?_;refine ZL #[_,_,_] A1x Bw C6 fun g8=>?_;refine ZL #[_,_,_] A1x Bw C6 fun g9=>?_;refine ZL #[_,_,_,_] A1B ET Gq fun g10=>?_;refine ZS #[_,_,_] bs27 ?_;refine AL J J (AH en5 J J J (fun w hw=>Fq (N:=4) (es:=KI) (pl:=true) (ls:=lsA) (cs:=[]) (Ly (g:=g5) hw J J (by decide)) (RE (g:=g10) hw (DZ (g:=g6) hw J J (by decide)) (DZ (g:=g7) hw J J (by decide)) (DZ (g:=g8) hw J J (by decide)) (DZ (g:=g9) hw J J (by decide))) (UR (by decide)) (hp.keep0 hw) (by decide))) ?_;rintro _ rfl;rw[chkA];refine Za<|Zx<|Zs ?_;refine Bk J J (AH en9 J J J (fun w hw=>Jd)) ?_;rintro _ _ ⟨g13,rfl,rfl⟩;simp only[A1K,A1N,A1O];refine ZL #[_,_,_] A1x Bw C6 fun g14=>?_;refine ZL #[_,_,_] A1x Bw C6 fun g15=>?_;refine ZL #[_,_,_] A1x Bw C6 fun g16=>?_;refine ZL #[_,_,_] A1x Bw C6 fun g17=>?_;refine ZL #[_,_,_,_] A1B ET Gq fun g18=>?_;refine ZS #[_,_,_] bs27 ?_;refine AL J J (AH en5 J J J (fun w hw=>Fq (N:=4) (es:=KI) (pl:=true) (ls:=lsB) (cs:=[]) (Ly (g:=g13) hw J J (by decide)) (RE (g:=g18) hw (DZ (g:=g14) hw J J (by decide)) (DZ (g:=g15) hw J J (by decide)) (DZ (g:=g16) hw J J (by decide)) (DZ (g:=g17) hw J J (by decide))) (UR (by decide)) (hp.keep0 hw) (by decide))) ?_;rintro _ rfl;rw[chkB];refine Za<|Zx<|Zs ?_;refine Bk J J (AH en9 J J J (fun w hw=>Jd)) ?_;rintro _ _ ⟨g21,rfl,rfl⟩;simp only[A1K,A1N,A1O];refine ZS #[_,_] P3 ?_;refine ZS #[_,_] P3 ?_;refine ZL #[_,_,_,_] A1y CF Fs fun g24=>?_;refine ZS #[_,_,_] bs27 ?_;refine AL J J (AH en5 J J J (fun w hw=>Fq (N:=4) (es:=KI) (pl:=false) (ls:=[]) (cs:=cs4) (Ly (g:=g21) hw J J (by decide)) (lsv_nil (by decide)) (Ly (g:=g24) hw J J (by decide)) (hp.keep0 hw) (by simp))) ?_;rintro _ rfl;rw[chkC];refine Za<|Zx<|Zs ?_;refine ZL #[_,_,_,_,_,_,_,_] Tryz.underlying41 sz5 ze5 fun g27=>?_;refine AU J J (g_mark (cs:=#[_,_,_,_,_,_,_,_]) J J Tryz.underlying41 Tryz.underlying5 (fun w hw=>hw)) ?_;rintro _ _ ⟨rfl,rfl⟩;refine AL J J (AH en10 J J J (fun w hw=>Xh (bs:=A0z) (c:=24) (a:=6) (byv_fro (bs:=A0z) (cap:=8) (sp:=[]) hw 0 J (by decide) (by decide)) raw4)) ?_;rintro _ rfl;refine Za<|Zx<|Zs ?_;refine Zz [3] ?_;refine AM 32 J (fun k5_2=>?_) (fun k5_2=>?_)
 .refine Zz [4] ?_;refine AM 36 J (fun k5_6=>?_) (fun k5_6=>?_)
  .refine Zz [4] ?_;refine AM 40 J (fun k5_10=>?_) (fun k5_10=>?_)
   .refine Zz [4]<|Zx<|At ?_;refine DN 0 ?_;refine Zh ?_;exact⟨J,J⟩
   exact absurd k5_10 (by decide)
  exact absurd k5_6 (by decide)
 exact absurd k5_2 (by decide)
def wr(x:Int):Int:=IntKind.i64.wrap x
def C4(N:Int):List Int->Int->List Int->Option (List Int)
 | [],_,at'=>some at'
 | v::r,i,at'=>if v<0\/N<=v\/0<=Ae at' v then none else C4 N r (i+1) (at'.set v.toNat i)
theorem FH(N v i:Int)(r at':List Int):C4 N (v::r) i at'=if v<0\/N<=v\/0<=Ae at' v then none else C4 N r (i+1) (at'.set v.toNat i):=rfl
def FC(es:List Pr)(pa he oi:List Int)(v:Int):Bool:=
 if Ae pa v= -1 then decide (Ae he v=0) else
 if Ae pa v<0\/2*(es.length:Int)<=Ae pa v\/Ae oi (Ae pa v / 2)≠Ae pa v then false else
 decide (AD es (Ae pa v)=v/\Ae he v=wr (Ae he (Aj es (Ae pa v))+1))
def E4(es:List Pr)(pa he oi:List Int)(N:Nat):Bool:=(List.range N).all fun v=>FC es pa he oi v
def VV(es:List Pr)(pa od at':List Int):Nat->List Int->List Int->Option (List Int×List Int)
 | 0,sz,la=>some (sz,la)
 | k+1,sz,la=>
  if Ae la (Ae od k)≠wr (wr (Ae at' (Ae od k)+Ae sz (Ae od k))-1) then none else
  if Ae pa (Ae od k)<0 then VV es pa od at' k sz la else
  if(k:Int)<=Ae at' (Aj es (Ae pa (Ae od k))) then none else
  VV es pa od at' k (sz.set (Aj es (Ae pa (Ae od k))).toNat (wr (Ae sz (Aj es (Ae pa (Ae od k)))+Ae sz (Ae od k))))
   (la.set (Aj es (Ae pa (Ae od k))).toNat (max (Ae la (Aj es (Ae pa (Ae od k)))) (Ae la (Ae od k))))
def H7(es:List Pr)(pa at' la:List Int):Int->List Int->Bool
 | _,[]=>true
 | e,h::r=>if h≠2*e/\h≠2*e+1 then false else
  if Ae pa (AD es h)≠h/\(Ae at' (Aj es h)<=Ae at' (AD es h)\/Ae la (AD es h)<Ae at' (Aj es h)) then false else H7 es pa at' la (e+1) r
theorem QJ(es:List Pr)(pa od at':List Int)(k:Nat)(sz la:List Int):VV es pa od at' (k+1) sz la=
  if Ae la (Ae od k)≠wr (wr (Ae at' (Ae od k)+Ae sz (Ae od k))-1) then none else
  if Ae pa (Ae od k)<0 then VV es pa od at' k sz la else
  if(k:Int)<=Ae at' (Aj es (Ae pa (Ae od k))) then none else
  VV es pa od at' k (sz.set (Aj es (Ae pa (Ae od k))).toNat (wr (Ae sz (Aj es (Ae pa (Ae od k)))+Ae sz (Ae od k))))
   (la.set (Aj es (Ae pa (Ae od k))).toNat (max (Ae la (Aj es (Ae pa (Ae od k)))) (Ae la (Ae od k)))):=rfl
theorem MC(es:List Pr)(pa at' la:List Int)(e h:Int)(r:List Int):H7 es pa at' la e (h::r)=if h≠2*e/\h≠2*e+1 then false else
  if Ae pa (AD es h)≠h/\(Ae at' (Aj es h)<=Ae at' (AD es h)\/Ae la (AD es h)<Ae at' (Aj es h)) then false else H7 es pa at' la (e+1) r:=rfl
structure Len (N:Int) (m:Nat) (pa he od oi:List Int):Prop where
 pa:(pa.length:Int)=N
 he:(he.length:Int)=N
 od:(od.length:Int)=N
 oi:oi.length=m
open Classical in
noncomputable def ES(N:Int)(es:List Pr)(pa he od oi:List Int):Bool:=
 if BX N es/\Len N es.length pa he od oi then
  match C4 N od 0 (List.replicate N.toNat (-1)) with
  | none=>false
  | some at'=>E4 es pa he oi N.toNat&&
   match VV es pa od at' N.toNat (List.replicate N.toNat 1) at' with
   | none=>false
   | some (_,la)=>H7 es pa at' la 0 oi
 else false
theorem CX{l:List Int}{i j x:Int}(h0:0<=i)(h1:i.toNat<l.length)(h2:0<=j):Ae (l.set i.toNat x) j=if j=i then x else Ae l j:=by
 unfold Ae;by_cases h:j=i
 .subst h;rw[if_pos rfl,A2A h1];rfl
 rw[if_neg h,A2E (by omega)]
theorem BE{N h:Int}{es:List Pr}(hv:BX N es)(h0:0<=h)(h1:h<es.length*2):0<=Aj es h/\Aj es h<N:=by
 have ht:=Dg hv (FW h0 h1).1 (FW h0 h1).2;have:AD es (tw h)=Aj es h:=by unfold AD;rw[if_pos (FW h0 h1).1,DK]
 rwa [this] at ht
theorem FD.cell{w:World}{v:Value}{xs:List Int}{i:Int}(h:FD w v xs)(h0:0<=i)(h1:i<xs.length):∃ad cap,v= .slice (some ad) xs.length cap/\w.cell? (ad.add i.toNat)=some (.int .i64 (Ae xs i)):=by
 obtain⟨A,cap,rfl,hr,_⟩:=h;obtain⟨ad,rfl,hc⟩:=hr.int (BM (l:=xs) (i:=i) (by omega));exact⟨ad,cap,rfl,hc⟩
def Dk(w:World)(K:List Nat)(Φ:World->Prop):Prop:=∀w',AR w K w' []->Φ w'
def fI(l:List Int)(x:Int):Int:=if 0<=x then(l[x.toNat]?).getD (-1) else -1
theorem Gm{l:List Int}{x:Int}(h0:0<=x)(h1:x.toNat<l.length):l[x.toNat]? =some (fI l x):=by
 unfold fI;rw[if_pos h0,A1d h1];rfl
theorem Ub{l:List Int}{a b:Int}(h0:0<=a)(h1:a.toNat<l.length):fI (l.set a.toNat b)=fun x=>if x=a then b else fI l x:=by
 funext x;unfold fI;by_cases c:x=a
 .subst c;rw[if_pos rfl,if_pos h0,A2A h1];rfl
 rw[if_neg c];by_cases h:0<=x
 .rw[if_pos h,if_pos h,A2E (by omega)]
 rw[if_neg h,if_neg h]
abbrev Fours:=List ((Int×Int)×(Int×Int))
def GJ(q:(Int×Int)×(Int×Int)):List Value:=[.int .i64 q.1.1,.int .i64 q.1.2,.int .i64 q.2.1,.int .i64 q.2.2]
def quads:Fours->List Value
 | []=>[]
 | q::r=>GJ q++quads r
@[simp] theorem quads_length (st:Fours):(quads st).length=st.length*4:=by
 induction st with
 | nil=>rfl
 | cons q r ih=>simp[quads,GJ,ih];omega
@[simp] theorem quads_append (a b:Fours):quads (a++b)=quads a++quads b:=by
 induction a with
 | nil=>rfl
 | cons q r ih=>simp[quads,ih]
theorem Ra(a:Fours)(q:(Int×Int)×(Int×Int))(b:Fours)(j:Nat)(u:Value)(h:(GJ q)[j]? =some u):(quads (a++q::b))[a.length*4+j]? =some u:=by
 have hj:j<4:=(A1e.1 h).1;rw[quads_append,A1p (by simp),quads_length,show a.length*4+j-a.length*4=j by omega];simp only[quads];rw[A1o (by simpa [GJ] using hj)];exact h
section
variable{P:Program}{ops:Array Oper}{w0 w w1:World}{K K1:List Nat}{n:Nat}{ds:List Deferred}{E:Env}{L L1 F:List Chunk}{o:Oper}{x y z:Operand}{v u:Value}{Φ Ψ:World->Prop}
theorem Dk.own(h:Dk w K Φ)(hw:AR w K w1 L):Φ w1:=h w1 (hw.sub (A1l _))
theorem Dk.here(h:Dk w K Φ):Φ w:=h w (B8 w K)
theorem Dk.imp(h:Dk w K Φ)(hi:∀w,Φ w->Ψ w):Dk w K Ψ:=fun w' hw=>hi w' (h w' hw)
theorem Dk.step(h:Dk w K Φ)(hw:AR w K w1 L1)(hs:∀k,k∈K1->k∈AY L1):Dk w1 K1 Φ:=fun w' hw'=>by
 refine h w' ?_;have:=AR.frame (Lc:=L1) (F:=[]) (by simpa using hw) hw' hs;simpa using this
theorem IH{Lc:List Chunk}(hw:AR w0 K w (Lc++F))(h:∀w',AR w0 K w' F->Φ w'):Dk w (AY Lc) Φ:=fun w' hw'=>by
 refine h w' ?_;have:=AR.frame (Lc:=Lc) (F:=F) hw hw' (fun k hk=>hk);simpa using this
theorem Wx{g t i:Nat}{cs:Array Value}{vs:List Value}{fz:Nat×Nat}(h:w0.heap[g]? =some (.cells cs t fz))(hk:g∉K)(hv:(cs.toList.drop i).take vs.length=vs):Jl w0 K L ⟨g,i,none⟩ vs:=
 MK (fun j u hu=>by
  rw[Cm,cell_of_row w0 g _ cs t fz h];rw[<-hv,A2j] at hu;split at hu
  .rw[A2S] at hu;simpa using hu
  cases hu) hk
theorem YQ{ad:Addr}(hD:Dk w0 K Φ)(h:∀w,Φ w->w.cell? ad=some v):Ll w0 K L ad v:=fun w hw=>h w (hD.own hw)
theorem Da{g i:Nat}{cs:Array Value}{vs:List Value}(hD:Dk w0 K Φ)(h:∀w,Φ w->∃t fz,w.heap[g]? =some (.cells cs t fz))(hv:(cs.toList.drop i).take vs.length=vs):Jl w0 K L ⟨g,i,none⟩ vs:=fun w hw j u hu=>by
 obtain⟨t,fz,hh⟩:=h w (hD.own hw);rw[Cm,cell_of_row w g _ cs t fz hh];rw[<-hv,A2j] at hu;split at hu
 .rw[A2S] at hu;simpa using hu
 cases hu
theorem Jb{g i:Nat}{cs:Array Value}{vs:List Value}(h:∃t fz,w0.heap[g]? =some (.cells cs t fz))(hk:g∉K)(hv:(cs.toList.drop i).take vs.length=vs):Jl w0 K L ⟨g,i,none⟩ vs:=by
 obtain⟨t,fz,h⟩:=h;exact Wx h hk hv
theorem EW{xs:List Int}(hD:Dk w0 K Φ)(h:∀w,Φ w->FD w v xs):∃A cap,v= .slice A xs.length cap/\xs.length<=cap/\cap<=9223372036854775807/\xs.length<=17592186044416/\
  ∀i:Int,0<=i->i<xs.length->∃ad,A=some ad/\∀L,Ll w0 K L (ad.add i.toNat) (.int .i64 (Ae xs i)):=by
 obtain⟨A,cap,e,_,h1,h2,h3⟩:=h _ hD.here;refine⟨A,cap,e,h1,h2,h3,fun i i0 i1=>?_⟩;obtain⟨ad,cp,e',_⟩:=(h _ hD.here).cell (i:=i) i0 i1;rw[e] at e';cases e';refine⟨ad,rfl,fun L w hw=>?_⟩;obtain⟨ad2,cp2,e2,hc⟩:=(h _ (hD.own hw)).cell (i:=i) i0 i1;rw[e] at e2;cases e2;exact hc
theorem JE{i t l c:Nat}{ad:Addr}{st:Fours}{q:(Int×Int)×(Int×Int)}(hi:L[i]? =some (Bf (.slice (some ad) l c) t 4 (quads (st++[q])))):Jl w0 K L (ad.add (st.length*4)) (GJ q):=by
 intro w hw j u hu;obtain⟨A,len,cap,e,_,hr,_⟩:=Ft (hw.perm (Bj hi).symm);cases e;obtain⟨ad',e,hc⟩:=hr _ u (Ra st q [] j u hu);cases e;by_cases hj:j=0
 .subst hj;rw[A2x] at hc;rw[show(ad.add (st.length*4)).add 0=ad.add (st.length*4) by rw[Addr.add,if_pos rfl]];exact hc
 rw[Kc _ _ _ (by omega)];exact hc
theorem Mf{i t:Nat}{st:Fours}(hw:AR w0 K w L)(hi:L[i]? =some (Bf v t 4 (quads st))):∃A c,v= .slice A st.length c/\st.length<=c/\c<=9223372036854775807/\(st≠[]->∃ad,A=some ad):=by
 obtain⟨A,len,cap,e,h1,hr,h2,h3⟩:=Ft (hw.perm (Bj hi).symm);simp at h1;obtain rfl:st.length=len:=by omega
 refine⟨A,cap,e,h2,h3,fun hne=>?_⟩;cases st with
 | nil=>exact absurd rfl hne
 | cons q r=>
  obtain⟨ad,e,_⟩:=hr 0 _ (Ra [] q r 0 _ rfl);exact⟨ad,e⟩
theorem DC.quads{Q:Exit->Act->World->Prop}{cd:Code}{i t:Nat}{st:Fours}(hi:L[i]? =some (Bf v t 4 (quads st)))
 (h:∀A c,v= .slice A st.length c->st.length<=c->c<=9223372036854775807->(st≠[]->∃ad,A=some ad)->DC P w0 K n ds Q cd E L):DC P w0 K n ds Q cd E L:=by
 intro a w ha hw;obtain⟨A,c,e,h1,h2,h3⟩:=Mf hw hi;exact h A c e h1 h2 h3 a w ha hw
theorem X5{t c:Nat}{A:Option Addr}{st:Fours}{q:(Int×Int)×(Int×Int)}(hw:AR w0 K w (Bf (.slice A (st.length+1) c) t 4 (quads (st++[q]))::F)):AR w0 K w (Bf (.slice A st.length c) t 4 (quads st)::F):=by
 rcases DA hw with⟨_,e,_⟩|⟨g,len,cap,sp,e,h1,h2,h3,h4,hO⟩
 .exact absurd (congrArg List.length e) (by simp)
 cases e;refine Ca (by simp) (by decide) (by omega) h3 (by simp at h4 ⊢;omega) ?_ hO;have e1:(quads st).length=st.length*4:=quads_length st;rw[List.toList_toArray,quads_append,A1L,<-e1];exact A2T
/-! ### structs of two pairs are compared -/
def UQ(P:Program)(t:TypeId):Bool:=
 (match P.underlying t with
 | some (.struct fs)=>(match fs.toList with
  | [a,b]=>(a.name != "_")&&(b.name != "_")&&Nat.beq a.offset 0&&Nat.beq b.offset 2&&H0 P a.type&&H0 P b.type&&(BD P a.type==some 2)&&(BD P b.type==some 2)
  | _=>false)
 | _=>false)&& !P.stoodInHeld t&& !P.eqGuardType P.depth t
theorem JG{t:TypeId}(h:H0 P t=true):CG P t=some true:=by
 unfold H0 at h;simp only[A1P] at h;obtain⟨⟨h1,_⟩,_⟩:=h;split at h1
 .rename_i fs hfs;simp[CG,hfs]
 cases h1
theorem E7{t:TypeId}{cs us:Array Value}{i:Nat}(h:CG P t=some true)(hs:BD P t=some 2)(hi:cs.extract i (i+2)=us):(part t cs i).run P w= .ok (.agg us) w:=by
 subst hi;simp[part,HW h,Cp hs]
theorem V6{t:TypeId}{a b:(Int×Int)×(Int×Int)}(h:UQ P t=true)(m:Nat):(Op.equalIn (m+3) t (.agg (GJ a).toArray) (.agg (GJ b).toArray)).run P w= .ok (decide (a=b)) w:=by
 unfold UQ at h;simp only[A1P,A3c] at h;obtain⟨⟨h1,h2⟩,h3⟩:=h;split at h1
 .rename_i fs hfs;split at h1
  .rename_i f g hl;simp only[A1P,bne_iff_ne,ne_eq,beq_iff_eq] at h1;obtain⟨⟨⟨⟨⟨⟨⟨n1,n2⟩,o1⟩,o2⟩,i1⟩,i2⟩,s1⟩,s2⟩:=h1;have o1:=A2v o1;have o2:=A2v o2;have hff:P.fieldsOf t=fs:=by simp[Program.fieldsOf,hfs]
   rw[run_equalIn_struct w (m+2) t _ _ (by rw[hff];exact hfs) h2,hff,hl];simp only[Op.eqFields,ne_eq,n1,n2,not_false_eq_true,if_true,Sem.run_bind,o1,o2];rw[E7 (us:=#[.int .i64 a.1.1,.int .i64 a.1.2]) (JG i1) s1 (by rfl),Result.andThen_ok,E7 (us:=#[.int .i64 b.1.1,.int .i64 b.1.2]) (JG i1) s1 (by rfl),Result.andThen_ok,GE i1 m,Result.andThen_ok];by_cases hac:a.1.1=b.1.1/\a.1.2=b.1.2
   .rw[decide_eq_true hac];simp only[Bool.not_true,A2u,if_false,Sem.run_bind];rw[E7 (us:=#[.int .i64 a.2.1,.int .i64 a.2.2]) (JG i2) s2 (by rfl),Result.andThen_ok,E7 (us:=#[.int .i64 b.2.1,.int .i64 b.2.2]) (JG i2) s2 (by rfl),Result.andThen_ok,GE i2 m,Result.andThen_ok];by_cases hbd:a.2.1=b.2.1/\a.2.2=b.2.2
    .have:a=b:=Prod.ext (Prod.ext hac.1 hac.2) (Prod.ext hbd.1 hbd.2);subst this;simp
    have:¬a=b:=fun e=>hbd (by rw[e];exact⟨rfl,rfl⟩);rw[decide_eq_false hbd,decide_eq_false this];simp
   have:¬a=b:=fun e=>hac (by rw[e];exact⟨rfl,rfl⟩);rw[decide_eq_false hac,decide_eq_false this];simp
  cases h1
 cases h1
theorem Ty{t t':TypeId}{a b:(Int×Int)×(Int×Int)}(ho:o.op= .binOp .neq t x y t')(hx:ev n E x=some (.agg (GJ a).toArray))(hy:ev n E y=some (.agg (GJ b).toArray))(h:UQ P t=true):
  EL P n ds E o (.bool (!decide (a=b))):=by
 intro s w ha;have h2:=V6 (P:=P) (w:=w) (a:=a) (b:=b) h 9997;have h3:=h;unfold UQ at h3;simp only[A1P,A3c] at h3;simp only[execOp,ho,ha.ev hx,ha.ev hy,Sem.run_bind,run_eqGuard_agg w _ t x y _ _ h3.2,run_neq_struct,h2,Result.andThen_ok,Sem.run_pure]
end
section
open Classical
/-! ### a row of colours -/
section
variable{A Cn:Nat->Bool}{n p q k:Nat}
def MT(p k q:Nat):Prop:=(p<k/\k<q)\/(k<q/\q<p)\/(q<p/\p<k)
theorem O9(hs:∀i,i+1<n->A (i+1)=(A i !=Cn (i+1))){i:Nat}:∀{j:Nat},i<=j->j<n->(∀r,i<r->r<=j->Cn r=false)->A j=A i
 | 0,hij,_,_=>by rw[show i=0 by omega]
 | j+1,hij,hj,h0=>by
  by_cases e:i=j+1
  .rw[e]
  have h1:=O9 hs (j:=j) (i:=i) (by omega) (by omega) fun r h1 h2=>h0 r h1 (by omega);rw[hs j hj,h0 (j+1) (by omega) (A1F _),h1];simp
theorem A0H(hs:∀i,i+1<n->A (i+1)=(A i !=Cn (i+1))){i j:Nat}(hiq:i<q)(hqj:q<=j)(hj:j<n)(hq:Cn q=true)(h0:∀r,i<r->r<=j->r≠q->Cn r=false):A j= !A i:=by
 obtain⟨q',rfl⟩:∃q',q=q'+1:=⟨q-1,by omega⟩;have h1:=O9 hs (i:=i) (j:=q') (by omega) (by omega) fun r a b=>h0 r a (by omega) (by omega);have h2:=O9 hs (i:=q'+1) (j:=j) hqj hj fun r a b=>h0 r (by omega) b (by omega);rw[h2,hs q' (by omega),hq,h1];simp
theorem twoN(hs:∀i,i+1<n->A (i+1)=(A i !=Cn (i+1)))(hp:p<n)(hq:q<n)(hC:∀r,r<n->(Cn r=true↔r=p\/r=q))(hpq:p≠q):A q= !A p:=by
 have hf:∀r,r<n->r≠p->r≠q->Cn r=false:=fun r hr h1 h2=>by
  cases h:Cn r with
  | false=>rfl
  | true=>rcases(hC r hr).1 h with h|h<;>omega
 rcases Nat.lt_or_gt_of_ne hpq with h|h
 .exact A0H hs h (A1F _) hq ((hC q hq).2 (.inr rfl)) fun r a b c=>hf r (by omega) (by omega) c
 rw[A0H hs h (A1F _) hp ((hC p hp).2 (.inl rfl)) fun r a b c=>hf r (by omega) c (by omega)];simp
theorem arcN(hs:∀i,i+1<n->A (i+1)=(A i !=Cn (i+1)))(hp:p<n)(hq:q<n)(hk:k<n)(hC:∀r,r<n->(Cn r=true↔r=p\/r=q))(hpq:p≠q)(hkp:k≠p)(hkq:k≠q):A k=A p↔MT p k q:=by
 have hf:∀r,r<n->r≠p->r≠q->Cn r=false:=fun r hr h1 h2=>by
  cases h:Cn r with
  | false=>rfl
  | true=>rcases(hC r hr).1 h with h|h<;>omega
 have two:=twoN hs hp hq hC hpq;have cp:=(hC p hp).2 (.inl rfl);have cq:=(hC q hq).2 (.inr rfl);have ne:∀b:Bool,¬(!b)=b:=fun b=>by cases b<;>simp
 unfold MT;rcases Nat.lt_or_gt_of_ne hpq with h|h
 .by_cases c1:k<p
  .have:=A0H hs c1 (A1F _) hp cp fun r a b c=>hf r (by omega) c (by omega);rw[this];exact⟨fun h=>absurd h.symm (ne _),fun h=>by omega⟩
  by_cases c2:k<q
  .have:=O9 hs (i:=p) (j:=k) (by omega) hk fun r a b=>hf r (by omega) (by omega) (by omega);rw[this];exact⟨fun _=>by omega,fun _=>rfl⟩
  have:=O9 hs (i:=q) (j:=k) (by omega) hk fun r a b=>hf r (by omega) (by omega) (by omega);rw[this,two];exact⟨fun h=>absurd h (ne _),fun h=>by omega⟩
 by_cases c1:k<q
 .have:=A0H hs c1 (A1F _) hq cq fun r a b c=>hf r (by omega) (by omega) c;rw[two] at this;have e:A p=A k:=by cases h1:A p<;>cases h2:A k<;>rw[h1,h2] at this<;>simp at this ⊢
  rw[e];exact⟨fun _=>by omega,fun _=>rfl⟩
 by_cases c2:k<p
 .have:=O9 hs (i:=q) (j:=k) (by omega) hk fun r a b=>hf r (by omega) (by omega) (by omega);rw[this,two];exact⟨fun h=>absurd h (ne _),fun h=>by omega⟩
 have:=O9 hs (i:=p) (j:=k) (by omega) hk fun r a b=>hf r (by omega) (by omega) (by omega);rw[this];exact⟨fun _=>by omega,fun _=>rfl⟩
end
/-! ### maps -/
structure HL (es:List Pr) (rot:Int->List Int):Prop where
 mem:∀v h,h∈rot v↔(VH es h/\Aj es h=v)
 nodup:∀v,(rot v).Nodup
def Evn(es:List Pr)(C:Int->Bool):Prop:=∀v:Int,((Bs es v).countP fun h=>C (h / 2))%2=0
structure Xg (es:List Pr) (rot:Int->List Int) (C aft:Int->Bool):Prop where
 flip:∀h,VH es h->(aft (tw h) !=aft h)=C (h / 2)
 next:∀v (i:Nat) h k,(rot v)[i]? =some h->(rot v)[i+1]? =some k->aft (tw k)=aft h
structure PM (es:List Pr) (rot:Int->List Int):Prop where
 rg:HL es rot
 col:∀C,Evn es C->∃aft,Xg es rot C aft
section
variable{es:List Pr}{rot:Int->List Int}{C aft:Int->Bool}{v:Int}
noncomputable def pos(rot:Int->List Int)(es:List Pr)(h:Int):Nat:=(rot (Aj es h)).idxOf h
theorem HL.at(hR:HL es rot){h:Int}(hh:VH es h)(hv:Aj es h=v):(rot v)[pos rot es h]? =some h/\pos rot es h<(rot v).length:=by
 have hm:h∈rot v:=(hR.mem v h).2 ⟨hh,hv⟩;unfold pos;rw[hv];have:=List.idxOf_lt_length_of_mem hm;exact⟨by rw[A1d this,List.getElem_idxOf],this⟩
theorem HL.pos_ne(hR:HL es rot){h k:Int}(hh:VH es h)(hk:VH es k)(hv:Aj es h=v)(hw:Aj es k=v)(hne:h≠k):pos rot es h≠pos rot es k:=fun e=>by
 have h1:=(hR.at hh hv).1;have h2:=(hR.at hk hw).1;rw[e,h2] at h1;exact hne (Option.some.inj h1).symm
theorem Xg.steps(hR:HL es rot)(hc:Xg es rot C aft)(v:Int):∀i,i+1<(rot v).length->aft (((rot v)[i+1]?).getD 0)=(aft (((rot v)[i]?).getD 0) !=C ((((rot v)[i+1]?).getD 0) / 2)):=by
 intro i hi;have h1:=A1d (l:=rot v) (i:=i) (by omega);have h2:=A1d hi;have hk:=((hR.mem v _).1 (A1h h2)).1;have h3:=hc.next v i _ _ h1 h2;have h4:=hc.flip _ hk;rw[h1,h2];simp only[A2B];rw[<-h4,h3];cases aft (rot v)[i]<;>cases aft (rot v)[i+1]<;>rfl
theorem HL.two(hR:HL es rot){d d':Int}(hd:VH es d)(hd':VH es d')(hv:Aj es d=v)(hv':Aj es d'=v)(hC:∀h,VH es h->Aj es h=v->(C (h / 2)=true↔h=d\/h=d')):
  ∀r,r<(rot v).length->(C ((((rot v)[r]?).getD 0) / 2)=true↔r=pos rot es d\/r=pos rot es d'):=by
 intro r hr;have h1:=A1d hr;obtain⟨h2,h3⟩:=(hR.mem v _).1 (A1h h1);rw[h1];simp only[A2B];rw[hC _ h2 h3];have key:∀x,VH es x->Aj es x=v->((rot v)[r]=x↔r=pos rot es x):=fun x hx hxv=>by
  obtain⟨a1,a2⟩:=hR.at hx hxv;constructor
  .intro e;rw[A1d a2] at a1;have a3:=Option.some.inj a1;exact(List.getElem_inj (hR.nodup v)).1 (e.trans a3.symm)
  intro e;subst e;rw[h1] at a1;exact Option.some.inj a1
 rw[key d hd hv,key d' hd' hv']
theorem Xg.two_ne(hR:HL es rot)(hc:Xg es rot C aft){d d':Int}(hd:VH es d)(hd':VH es d')(hv:Aj es d=v)(hv':Aj es d'=v)(hne:d≠d')(hC:∀h,VH es h->Aj es h=v->(C (h / 2)=true↔h=d\/h=d')):
  aft d'= !aft d:=by
 obtain⟨a1,a2⟩:=hR.at hd hv;obtain⟨b1,b2⟩:=hR.at hd' hv';have:=twoN (A:=fun r=>aft (((rot v)[r]?).getD 0)) (Cn:=fun r=>C ((((rot v)[r]?).getD 0) / 2)) (hc.steps hR v) a2 b2 (hR.two hd hd' hv hv' hC) (hR.pos_ne hd hd' hv hv' hne);simp only[a1,b1,A2B] at this;exact this
theorem Xg.arc(hR:HL es rot)(hc:Xg es rot C aft){d d' x:Int}(hd:VH es d)(hd':VH es d')(hx:VH es x)(hv:Aj es d=v)(hv':Aj es d'=v)(hxv:Aj es x=v)(hne:d≠d')(h1:x≠d)(h2:x≠d')
 (hC:∀h,VH es h->Aj es h=v->(C (h / 2)=true↔h=d\/h=d')):aft x=aft d↔MT (pos rot es d) (pos rot es x) (pos rot es d'):=by
 obtain⟨a1,a2⟩:=hR.at hd hv;obtain⟨b1,b2⟩:=hR.at hd' hv';obtain⟨c1,c2⟩:=hR.at hx hxv;have:=arcN (A:=fun r=>aft (((rot v)[r]?).getD 0)) (Cn:=fun r=>C ((((rot v)[r]?).getD 0) / 2)) (hc.steps hR v) a2 b2 c2 (hR.two hd hd' hv hv' hC) (hR.pos_ne hd hd' hv hv' hne) (hR.pos_ne hx hd hxv hv h1) (hR.pos_ne hx hd' hxv hv' h2);simp only[a1,c1,A2B] at this;exact this
theorem Xg.alike(hR:HL es rot)(hc:Xg es rot C aft){d d':Int}(hd:VH es d)(hd':VH es d')(hv:Aj es d=v)(hv':Aj es d'=v)(hC:∀h,VH es h->Aj es h=v->C (h / 2)=false):aft d'=aft d:=by
 obtain⟨a1,a2⟩:=hR.at hd hv;obtain⟨b1,b2⟩:=hR.at hd' hv';have h0:∀r,r<(rot v).length->C ((((rot v)[r]?).getD 0) / 2)=false:=fun r hr=>by
  have h1:=A1d hr;obtain⟨h2,h3⟩:=(hR.mem v _).1 (A1h h1);rw[h1];exact hC _ h2 h3
 rcases Nat.le_total (pos rot es d) (pos rot es d') with h|h
 .have:=O9 (A:=fun r=>aft (((rot v)[r]?).getD 0)) (Cn:=fun r=>C ((((rot v)[r]?).getD 0) / 2)) (hc.steps hR v) h b2 fun r _ hr=>h0 r (by omega);simp only[a1,b1,A2B] at this;exact this
 have:=O9 (A:=fun r=>aft (((rot v)[r]?).getD 0)) (Cn:=fun r=>C ((((rot v)[r]?).getD 0) / 2)) (hc.steps hR v) h a2 fun r _ hr=>h0 r (by omega);simp only[a1,b1,A2B] at this;exact this.symm
/-! ### ways -/
inductive NK (es:List Pr):Int->Int->List Int->Prop
 | one {h:Int}:VH es h->NK es h h [h]
 | cons {h k z:Int} {l:List Int}:VH es h->Aj es k=AD es h->NK es k z l->NK es h z (h::l)
theorem NK.vh{h z:Int}{l:List Int}(hw:NK es h z l):VH es h/\VH es z/\h∈l/\z∈l/\(∀x,x∈l->VH es x):=by
 induction hw with
 | one hh=>exact⟨hh,hh,by simp,by simp,by simp;exact hh⟩
 | cons hh _ _ ih=>
  obtain⟨_,h2,_,h4,h5⟩:=ih;refine⟨hh,h2,by simp,by simp[h4],fun x hx=>?_⟩;rcases A1H.1 hx with rfl|hx
  .exact hh
  exact h5 x hx
theorem NK.app{h z h' z':Int}{l l':List Int}(hw:NK es h z l)(hw':NK es h' z' l')(hj:Aj es h'=AD es z):NK es h z' (l++l'):=by
 induction hw with
 | one hh=>exact .cons hh hj hw'
 | cons hh hk _ ih=>exact .cons hh hk (ih hj)
theorem Xg.off(hR:HL es rot)(hc:Xg es rot C aft){h z:Int}{l:List Int}(hw:NK es h z l)(hC:∀x,x∈l->C (x / 2)=false)
 (hi:∀x,x∈l.dropLast->∀y,VH es y->Aj es y=AD es x->C (y / 2)=false):aft (tw z)=aft h:=by
 have fl:∀x,VH es x->C (x / 2)=false->aft (tw x)=aft x:=fun x hx h0=>by
  have:=hc.flip x hx;rw[h0] at this;cases e1:aft (tw x)<;>cases e2:aft x<;>rw[e1,e2] at this<;>simp at this ⊢
 induction hw with
 | one hh=>exact fl _ hh (hC _ (by simp))
 | @cons h k z l hh hk hw ih=>
  have hkl:=hw.vh;have hne:l≠[]:=fun e=>by rw[e] at hkl;simp at hkl
  have hd:(h::l).dropLast=h::l.dropLast:=List.dropLast_cons_of_ne_nil hne;have h1:=ih (fun x hx=>hC x (by simp[hx])) (fun x hx=>hi x (by rw[hd];simp[hx]));have h3:=fl h hh (hC h (by simp));have h4:=hc.alike hR hkl.1 hh.tw (v:=AD es h) hk (BL hh) fun y hy hyv=>hi h (by rw[hd];simp) y hy hyv;rw[h1,<-h4,h3]
theorem Xg.along(hR:HL es rot)(hc:Xg es rot C aft){h z:Int}{l:List Int}(hw:NK es h z l)(hC:∀x,x∈l->C (x / 2)=true)
 (hi:∀x k,x∈l.dropLast->k∈l->Aj es k=AD es x->tw x≠k/\∀y,VH es y->Aj es y=AD es x->(C (y / 2)=true↔y=tw x\/y=k)):aft z=aft h:=by
 induction hw with
 | one hh=>rfl
 | @cons h k z l hh hk hw ih=>
  have hkl:=hw.vh;have hne:l≠[]:=fun e=>by rw[e] at hkl;simp at hkl
  have hd:(h::l).dropLast=h::l.dropLast:=List.dropLast_cons_of_ne_nil hne;have h1:=ih (fun x hx=>hC x (by simp[hx])) (fun x k hx hk=>hi x k (by rw[hd];simp[hx]) (by simp[hk]));obtain⟨a1,a2⟩:=hi h k (by rw[hd];simp) (by simp[hkl.2.2.1]) hk;have h3:=hc.two_ne hR hh.tw hkl.1 (v:=AD es h) (BL hh) hk a1 a2;have h4:=hc.flip h hh;rw[hC h (by simp)] at h4;rw[h1,h3];cases e1:aft (tw h)<;>cases e2:aft h<;>rw[e1,e2] at h4<;>simp at h4 ⊢
end
theorem Xg.fl1{es:List Pr}{rot:Int->List Int}{C aft:Int->Bool}(hc:Xg es rot C aft){h:Int}(hh:VH es h)(h1:C (h / 2)=true):aft (tw h)= !aft h:=by
 have h4:=hc.flip h hh;rw[h1] at h4;cases e1:aft (tw h)<;>cases e2:aft h<;>rw[e1,e2] at h4<;>simp at h4 ⊢
/-! ### even sets -/
theorem MV{α:Type}(p q:α->Bool):∀l:List α,(l.countP fun x=>p x !=q x)%2=(l.countP p+l.countP q)%2
 | []=>rfl
 | a::l=>by
  have:=MV p q l;simp only[A1Q];cases p a<;>cases q a<;>simp<;>omega
def Ld(es:List Pr)(C:Int->Bool)(v:Int):Nat:=((Bs es v).countP fun h=>C (h / 2))%2
theorem Rg(es:List Pr)(C D:Int->Bool)(v:Int):Ld es (fun e=>C e !=D e) v=(Ld es C v+Ld es D v)%2:=by
 unfold Ld;rw[MV (fun h=>C (h / 2)) (fun h=>D (h / 2))];omega
section
variable{N:Int}{es:List Pr}{v:Int}
theorem Rh(hV:BX N es){h:Int}(hh:VH es h):Ld es (fun e=>decide (h / 2=e)) v=if v=Aj es h\/v=AD es h then 1 else 0:=by
 have hne:Aj es h≠AD es h:=by
  obtain⟨e,a,he,h1⟩:=Cq hh.1 hh.2;have:=(hV.ok e a he).lt;omega
 have hmem:∀x,x∈Bs es v->(h / 2=x / 2↔x=if v=Aj es h then h else tw h):=fun x hx=>by
  obtain⟨x0,x1,x2⟩:=(Bb hV).1 hx;have hx':VH es x:=⟨x0,x1⟩;have hc:h / 2=x / 2↔x=h\/x=tw h:=by unfold tw;split<;>omega
  rw[hc];split
  .rename_i e;constructor
   .rintro(rfl|rfl)
    .rfl
    rw[BL hh] at x2;exact absurd (e.symm.trans x2.symm) hne
   exact .inl
  rename_i e;constructor
  .rintro(rfl|rfl)
   .exact absurd x2.symm e
   rfl
  exact .inr
 have hcnt:(Bs es v).countP (fun x=>decide (h / 2=x / 2))=if(if v=Aj es h then h else tw h)∈Bs es v then 1 else 0:=by
  have e1:(Bs es v).countP (fun x=>decide (h / 2=x / 2))=(Bs es v).count (if v=Aj es h then h else tw h):=by
   unfold List.count;refine List.countP_congr fun x hx=>?_;rw[decide_eq_true_eq,hmem x hx,beq_iff_eq]
  rw[e1,List.Nodup.count (E0 v)]
 unfold Ld;rw[hcnt];by_cases c1:v=Aj es h
 .rw[if_pos c1,if_pos ((Bb hV).2 ⟨hh.1,hh.2,c1.symm⟩),if_pos (.inl c1)]
 rw[if_neg c1];by_cases c2:v=AD es h
 .rw[if_pos ((Bb hV).2 ⟨hh.tw.1,hh.tw.2,by rw[BL hh,c2]⟩),if_pos (.inr c2)]
 rw[if_neg (fun hm=>c2 (by rw[<-BL hh];exact((Bb hV).1 hm).2.2.symm)),if_neg (by intro h;rcases h with h|h<;>contradiction)]
def GL(l:List Int)(e:Int):Bool:=l.any fun x=>decide (x / 2=e)
theorem Db{l:List Int}{e:Int}:GL l e=true↔∃x,x∈l/\x / 2=e:=by unfold GL;simp
theorem UE(hV:BX N es){h z:Int}{l:List Int}(hw:NK es h z l)(hn:(l.map (· / 2)).Nodup):Ld es (GL l) v=((if v=Aj es h then 1 else 0)+if v=AD es z then 1 else 0)%2:=by
 have hne:∀{h},VH es h->Aj es h≠AD es h:=fun{h} hh=>by
  obtain⟨e,a,he,h1⟩:=Cq hh.1 hh.2;have:=(hV.ok e a he).lt;omega
 induction hw with
 | @one h hh=>
  have e:GL [h]=fun e=>decide (h / 2=e):=by funext e;simp[GL]
  rw[e,Rh hV hh];have:=hne hh
  repeat' split
  all_goals omega
 | @cons h k z l hh hk hw ih=>
  rw[A1M,A1Z] at hn;have e:GL (h::l)=fun e=>decide (h / 2=e) !=GL l e:=by
   funext e;have e1:GL (h::l) e=(decide (h / 2=e)||GL l e):=by simp[GL]
   rw[e1];by_cases c:h / 2=e
   .have:GL l e=false:=by
     cases hx:GL l e with
     | false=>rfl
     | true=>obtain⟨x,hx,hxe⟩:=Db.1 hx;exact absurd (A1G.2 ⟨x,hx,by rw[hxe,c]⟩) hn.1
    simp[c,this]
   simp[c]
  rw[e,Rg,Rh hV hh,ih hn.2,hk];have:=hne hh
  repeat' split
  all_goals omega
end
end
section
open Classical
section
variable(es:List Pr)(pa he oi:Int->Int)
inductive BJ (u:Int):Int->Prop
 | refl:BJ u u
 | step {v:Int}:0<=pa v->BJ u (Aj es (pa v))->BJ u v
structure CD (N:Int):Prop where
 val:BX N es
 up:∀v,0<=v->v<N->(pa v<0/\he v=0)\/(VH es (pa v)/\oi (pa v / 2)=pa v/\AD es (pa v)=v/\he v=he (Aj es (pa v))+1)
 ori:∀e:Int,0<=e->e<es.length->oi e=2*e\/oi e=2*e+1
 bk:∀e:Int,0<=e->e<es.length->pa (AD es (oi e))≠oi e->BJ es pa (AD es (oi e)) (Aj es (oi e))
 pos:∀v,0<=v->v<N->0<=he v
def DS(h:Int):Prop:=VH es h/\oi (h / 2)=h
def GP(h:Int):Prop:=DS es oi h/\pa (AD es h)=h
def DO(h:Int):Prop:=DS es oi h/\pa (AD es h)≠h
def Rt(h b:Int):Prop:=DO es pa oi b/\he (AD es b)<he (Aj es h)/\(b=h\/(GP es pa oi h/\BJ es pa (AD es h) (Aj es b)))
def Ov(h k b:Int):Prop:=Rt es pa he oi h b/\∃c,Rt es pa he oi k c/\he (AD es c)<he (AD es b)
def VM(s:Int->Bool):Prop:=∀h k,DS es oi h->DS es oi k->h≠k->Aj es h=Aj es k->
 (∀b b',Ov es pa he oi h k b->Ov es pa he oi h k b'->s b=s b')/\(∀b b',Ov es pa he oi h k b->Ov es pa he oi k h b'->s b≠s b')
end
section
variable{es:List Pr}{pa he oi:Int->Int}{N:Int}{u v w x:Int}
theorem BJ.trans(h:BJ es pa v w)(h':BJ es pa u v):BJ es pa u w:=by
 induction h with
 | refl=>exact h'
 | step hp _ ih=>exact .step hp ih
theorem CD.par(hF:CD es pa he oi N)(h0:0<=v)(h1:v<N)(hp:0<=pa v):GP es pa oi (pa v)/\AD es (pa v)=v/\he v=he (Aj es (pa v))+1/\0<=Aj es (pa v)/\Aj es (pa v)<N:=by
 rcases hF.up v h0 h1 with⟨h,_⟩|⟨h2,h3,h4,h5⟩
 .omega
 have:=BE hF.val h2.1 h2.2;exact⟨⟨⟨h2,h3⟩,by rw[h4]⟩,h4,h5,this.1,this.2⟩
theorem CD.rng(hF:CD es pa he oi N){h:Int}(hh:VH es h):(0<=Aj es h/\Aj es h<N)/\0<=AD es h/\AD es h<N:=
 ⟨BE hF.val hh.1 hh.2,Dg hF.val hh.1 hh.2⟩
theorem BJ.le(hF:CD es pa he oi N)(h:BJ es pa u v):0<=v->v<N->(0<=u/\u<N)/\(u=v\/he u<he v):=by
 induction h with
 | refl=>exact fun a b=>⟨⟨a,b⟩,.inl rfl⟩
 | @step v hp _ ih=>
  intro a b;obtain⟨_,_,h3,h4,h5⟩:=hF.par a b hp;obtain⟨i1,i2⟩:=ih h4 h5;exact⟨i1,.inr (by rcases i2 with rfl|i2<;>omega)⟩
theorem BJ.row(hF:CD es pa he oi N)(h:BJ es pa u x):0<=x->x<N->BJ es pa v x->he u<=he v->BJ es pa u v:=by
 induction h with
 | refl=>
  intro a b hv hle;rcases(hv.le hF a b).2 with rfl|h
  .exact .refl
  omega
 | @step x hp hu ih=>
  intro a b hv hle;obtain⟨_,_,h3,h4,h5⟩:=hF.par a b hp;cases hv with
  | refl=>exact .step hp hu
  | step _ hv=>exact ih h4 h5 hv hle
theorem BJ.same(hF:CD es pa he oi N)(h:BJ es pa u x)(h':BJ es pa v x)(h0:0<=x)(h1:x<N)(e:he u=he v):u=v:=by
 have h2:=h.row hF h0 h1 h' (by omega);have h3:=h'.le hF h0 h1;rcases(h2.le hF h3.1.1 h3.1.2).2 with h|h
 .exact h
 omega
theorem BJ.up(h:BJ es pa u x)(hne:u≠x):0<=pa x/\BJ es pa u (Aj es (pa x)):=by
 cases h with
 | refl=>exact absurd rfl hne
 | step a b=>exact⟨a,b⟩
theorem CD.back(hF:CD es pa he oi N){b:Int}(hb:DO es pa oi b):BJ es pa (AD es b) (Aj es b)/\he (AD es b)<he (Aj es b):=by
 obtain⟨⟨h1,h2⟩,h3⟩:=hb;have h4:=hF.bk (b / 2) (by have:=h1.1;omega) (by have:=h1.2;omega) (by rw[h2];exact h3);rw[h2] at h4;have h5:=hF.rng h1;refine⟨h4,?_⟩;rcases(h4.le hF h5.1.1 h5.1.2).2 with e|h
 .obtain⟨e',a,he',q⟩:=Cq h1.1 h1.2;have:=(hF.val.ok e' a he').lt;omega
 exact h
theorem CD.tree(hF:CD es pa he oi N){h:Int}(ht:GP es pa oi h):he (AD es h)=he (Aj es h)+1/\BJ es pa (Aj es h) (AD es h):=by
 have h1:=hF.rng ht.1.1;have hp:pa (AD es h)=h:=ht.2;have:=hF.par h1.2.1 h1.2.2 (by rw[hp];exact ht.1.1.1);refine⟨by rw[hp] at this;exact this.2.2.1,.step (by rw[hp];exact ht.1.1.1) (by rw[hp];exact .refl)⟩
theorem CD.orn_ne(hF:CD es pa he oi N){h k:Int}(hh:DS es oi h)(hk:DS es oi k):h / 2=k / 2↔h=k:=
 ⟨fun e=>by rw[<-hh.2,<-hk.2,e],fun e=>by rw[e]⟩
inductive DP (es:List Pr) (pa:Int->Int) (u:Int):Int->List Int->Prop
 | nil:DP es pa u u []
 | snoc {x:Int} {l:List Int}:0<=pa x->DP es pa u (Aj es (pa x)) l->DP es pa u x (l++[pa x])
theorem BJ.dp(h:BJ es pa u x):∃l,DP es pa u x l:=by
 induction h with
 | refl=>exact⟨[],.nil⟩
 | step hp _ ih=>obtain⟨l,hl⟩:=ih;exact⟨_,.snoc hp hl⟩
theorem DP.anc{l:List Int}(h:DP es pa u x l):BJ es pa u x:=by
 induction h with
 | nil=>exact .refl
 | snoc hp _ ih=>exact .step hp ih
theorem DP.mem(hF:CD es pa he oi N){l:List Int}(h:DP es pa u x l):0<=x->x<N->∀k,k∈l->GP es pa oi k/\BJ es pa u (Aj es k)/\BJ es pa (AD es k) x:=by
 induction h with
 | nil=>simp
 | @snoc x l hp hd ih=>
  intro a b k hk;obtain⟨h1,h2,h3,h4,h5⟩:=hF.par a b hp;rcases A1C.1 hk with hk|hk
  .obtain⟨q1,q2,q3⟩:=ih h4 h5 k hk;exact⟨q1,q2,.step hp q3⟩
  simp at hk;subst hk;exact⟨h1,hd.anc,by rw[h2];exact .refl⟩
theorem NK.snoc{h z k:Int}{l:List Int}(hw:NK es h z l)(hk:VH es k)(hj:Aj es k=AD es z):NK es h k (l++[k]):=hw.app (.one hk) hj
theorem DP.wlk(hF:CD es pa he oi N){l:List Int}(h:DP es pa u x l):0<=x->x<N->u≠x->∃k,NK es k (pa x) l/\Aj es k=u/\k∈l:=by
 induction h with
 | nil=>exact fun _ _ h=>absurd rfl h
 | @snoc x l hp hd ih=>
  intro a b hne;obtain⟨h1,h2,h3,h4,h5⟩:=hF.par a b hp;by_cases e:u=Aj es (pa x)
  .subst e;cases hd with
   | nil=>exact⟨pa x,.one h1.1.1,rfl,by simp⟩
   | snoc hp' hd'=>
    have q1:=(hF.par h4 h5 hp');have:=(hd'.anc.le hF q1.2.2.2.1 q1.2.2.2.2).2;have e2:=q1.2.2.1;rcases this with q|q
    .rw[<-q] at e2;omega
    omega
  obtain⟨k,k1,k2,k3⟩:=ih h4 h5 e;have q:=(hd.anc.up e).1;exact⟨k,k1.snoc h1.1.1 (by rw[(hF.par h4 h5 q).2.1]),k2,by simp[k3]⟩
structure SC (es:List Pr) (l:List Int):Prop where
 vh:∀a,a∈l->VH es a
 fr:∀a b,a∈l->b∈l->Aj es a=Aj es b->a=b
 to:∀a b,a∈l->b∈l->AD es a=AD es b->a=b
 nt:∀a,a∈l->tw a∉l
theorem MN{h k:Int}(e:h / 2=k / 2):h=k\/h=tw k:=by unfold tw;split<;>omega
theorem SC.at{l:List Int}(hS:SC es l){x k:Int}(hx:x∈l)(hk:k∈l)(hj:Aj es k=AD es x):tw x≠k/\∀y,VH es y->Aj es y=AD es x->(GL l (y / 2)=true↔y=tw x\/y=k):=by
 refine⟨fun e=>hS.nt x hx (by rw[e];exact hk),fun y hy hyx=>?_⟩;rw[Db];constructor
 .rintro⟨z,hz,e⟩;rcases MN e with rfl|rfl
  .exact .inr (hS.fr _ _ hz hk (by rw[hyx,hj]))
  left;rw[<-hS.to _ _ hz hx (by rw[Ef hy];exact hyx),DK]
 rintro(rfl|rfl)
 .exact⟨x,hx,by unfold tw;split<;>omega⟩
 exact⟨_,hk,rfl⟩
end
end
section
open Classical
section
variable(es:List Pr)(pa he oi:Int->Int)
def Lw(h b:Int):Prop:=Rt es pa he oi h b/\∀c,Rt es pa he oi h c->he (AD es b)<=he (AD es c)
def Aln(s:Int->Bool):Prop:=∀h b b',DS es oi h->Lw es pa he oi h b->Lw es pa he oi h b'->s b=s b'
def Tp(b t:Int):Prop:=DS es oi t/\Lw es pa he oi t b/\∀k,DS es oi k->Lw es pa he oi k b->he (Aj es t)<=he (Aj es k)
noncomputable def XB(b:Int):Int:=if h:∃t,Tp es pa he oi b t then Classical.choose h else b
noncomputable def X4(t:Int):Int:=if h:∃b,Lw es pa he oi t b then Classical.choose h else t
end
section
variable{es:List Pr}{pa he oi:Int->Int}{N:Int}{u v w x:Int}{s:Int->Bool}
theorem I8{α:Type}{p:α->Prop}{f:α->Int}(hp:∀a,p a->0<=f a)(h:∃a,p a):∃a,p a/\∀b,p b->f a<=f b:=by
 have:∀(n:Nat) (a:α),p a->f a<=n->∃a,p a/\∀b,p b->f a<=f b:=by
  intro n
  induction n with
  | zero=>exact fun a ha hn=>⟨a,ha,fun b hb=>by have:=hp b hb;omega⟩
  | succ n ih=>
   intro a ha hn;by_cases c:∃b,p b/\f b<=n
   .obtain⟨b,hb,hbn⟩:=c;exact ih b hb hbn
   exact⟨a,ha,fun b hb=>Classical.byContradiction fun h=>c ⟨b,hb,by omega⟩⟩
 obtain⟨a,ha⟩:=h;exact this (f a).toNat a ha (by have:=hp a ha;omega)
theorem Rt.self(hF:CD es pa he oi N){b:Int}(hb:DO es pa oi b):Rt es pa he oi b b:=⟨hb,(hF.back hb).2,.inl rfl⟩
theorem Dh{b c:Int}(hb:DO es pa oi b)(h:Rt es pa he oi b c):c=b:=by
 rcases h.2.2 with h|h
 .exact h
 exact absurd h.1.2 hb.2
theorem Rt.under(hF:CD es pa he oi N){h b:Int}(hr:Rt es pa he oi h b):BJ es pa (Aj es h) (Aj es b):=by
 rcases hr.2.2 with rfl|⟨h1,h2⟩
 .exact .refl
 exact h2.trans (hF.tree h1).2
theorem Lw.self(hF:CD es pa he oi N){b:Int}(hb:DO es pa oi b):Lw es pa he oi b b:=⟨Rt.self hF hb,fun c hc=>by rw[Dh hb hc];exact A2g _⟩
theorem Kk(hF:CD es pa he oi N){b:Int}(hb:DO es pa oi b):Tp es pa he oi b (XB es pa he oi b):=by
 have hex:∃t,Tp es pa he oi b t:=by
  obtain⟨t,⟨h1,h2⟩,h3⟩:=I8 (p:=fun t=>DS es oi t/\Lw es pa he oi t b) (f:=fun t=>he (Aj es t)) (fun t ht=>by
   have:=hF.rng ht.1.1;exact hF.pos _ this.1.1 this.1.2) ⟨b,hb.1,Lw.self hF hb⟩;exact⟨t,h1,h2,fun k hk hl=>h3 k ⟨hk,hl⟩⟩
 unfold XB;rw[dif_pos hex];exact A2X hex
theorem V9{t b:Int}(h:Lw es pa he oi t b):Lw es pa he oi t (X4 es pa he oi t):=by
 have hex:∃b,Lw es pa he oi t b:=⟨b,h⟩;unfold X4;rw[dif_pos hex];exact A2X hex
theorem Lw.eq{t b b':Int}(h:Lw es pa he oi t b)(h':Lw es pa he oi t b'):he (AD es b)=he (AD es b'):=by
 have:=h.2 b' h'.1;have:=h'.2 b h.1;omega
theorem Tp.uniq(hF:CD es pa he oi N){b b' h t t':Int}(hl:Lw es pa he oi h b)(hl':Lw es pa he oi h b')(ho:DS es oi h)(ht:Tp es pa he oi b t)(ht':Tp es pa he oi b' t'):t=t':=by
 have hb:=hl.1.1;have hb':=hl'.1.1;have rb:=hF.rng hb.1.1;have rb':=hF.rng hb'.1.1;by_cases c:h=b
 .rw[c] at hl';have e:=Dh hb hl'.1;rw[e] at ht';have e1:he (Aj es t)=he (Aj es t'):=by
   have a1:=ht.2.2 _ ht'.1 ht'.2.1;have a2:=ht'.2.2 _ ht.1 ht.2.1;omega
  rcases ht.2.1.1.2.2 with f|⟨f1,f2⟩<;>rcases ht'.2.1.1.2.2 with g|⟨g1,g2⟩
  .rw[<-f,<-g]
  .exfalso;have:=(hF.tree g1).1;have a:=(g2.le hF rb.1.1 rb.1.2).2;rw[<-f] at e1;rcases a with a|a
   .rw[a] at this;omega
   omega
  .exfalso;have:=(hF.tree f1).1;have a:=(f2.le hF rb.1.1 rb.1.2).2;rw[<-g] at e1;rcases a with a|a
   .rw[a] at this;omega
   omega
  have q1:=(hF.tree f1).1;have q2:=(hF.tree g1).1;have:=f2.same hF g2 rb.1.1 rb.1.2 (by omega);rw[<-f1.2,this,g1.2]
 have key:∀{b b' t:Int},h≠b->Lw es pa he oi h b->Lw es pa he oi h b'->Tp es pa he oi b t->GP es pa oi t/\Lw es pa he oi t b'/\BJ es pa (AD es t) (Aj es b'):=by
  intro b b' t hne hl hl' ht;have hb:=hl.1.1;have rb:=hF.rng hb.1.1;have hh:GP es pa oi h/\BJ es pa (AD es h) (Aj es b):=hl.1.2.2.resolve_left (Ne.symm hne);have q1:=(hF.tree hh.1).1;have a1:=(hh.2.le hF rb.1.1 rb.1.2).2;have a2:=ht.2.2 h ho hl;have htt:GP es pa oi t/\BJ es pa (AD es t) (Aj es b):=ht.2.1.1.2.2.resolve_left fun e=>by
   rw[<-e] at a2;rcases a1 with a|a
   .rw[a] at q1;omega
   omega
  have q2:=(hF.tree htt.1).1;have hrow:=htt.2.row hF rb.1.1 rb.1.2 hh.2 (by omega);have hb'h:BJ es pa (AD es h) (Aj es b'):=by
   rcases hl'.1.2.2 with e|e
   .exfalso;have:=hl'.1.1.2;rw[e] at this;exact this hh.1.2
   exact e.2
  have e2:=hl.eq hl';have h3:=hb'h.trans hrow;exact⟨htt.1,⟨⟨hl'.1.1,by rw[<-e2];exact ht.2.1.1.2.1,.inr ⟨htt.1,h3⟩⟩,fun c hc=>by rw[<-e2];exact ht.2.1.2 c hc⟩,h3⟩
 have c':h≠b':=fun e=>by
  rw[e] at hl;exact c (by rw[e];exact(Dh hb' hl.1).symm)
 obtain⟨k1,k2,k3⟩:=key c hl hl' ht;obtain⟨m1,m2,m3⟩:=key c' hl' hl ht';obtain⟨m4,m5,m6⟩:=key c' hl' hl' ht';have a1:=ht'.2.2 t ht.1 k2;have a2:=ht.2.2 t' ht'.1 m2;have q1:=(hF.tree k1).1;have q2:=(hF.tree m1).1;have:=k3.same hF m6 rb'.1.1 rb'.1.2 (by omega);rw[<-k1.2,this,m1.2]
theorem con_aln(hF:CD es pa he oi N)(hs:VM es pa he oi s):∃s',VM es pa he oi s'/\Aln es pa he oi s':=by
 refine⟨fun b=>s (X4 es pa he oi (XB es pa he oi b)),?_,?_⟩
 .have key:∀{h k b},DS es oi h->DS es oi k->Aj es h=Aj es k->Ov es pa he oi h k b->Ov es pa he oi h k (X4 es pa he oi (XB es pa he oi b)):=by
   intro h k b hh hk hv ⟨hb,c,hc,hcb⟩;have hT:=Kk hF hb.1;have hR:=V9 hT.2.1;have e:=hT.2.1.eq hR;generalize XB es pa he oi b=t at hT hR e;generalize X4 es pa he oi t=b0 at hR e;have rb:=hF.rng hb.1.1.1;have rh:=hF.rng hh.1;have uv:=hb.under hF;have uvc:BJ es pa (Aj es h) (Aj es c):=by rw[hv];exact hc.under hF
   have hle:he (Aj es h)<=he (Aj es t):=Classical.byContradiction fun hlt=>by
    have a:=(uv.le hF rb.1.1 rb.1.2).2;have htt:GP es pa oi t/\BJ es pa (AD es t) (Aj es b):=hT.2.1.1.2.2.resolve_left fun e=>by
     rw[<-e] at hlt;rcases a with a|a
     .rw[a] at hlt;omega
     omega
    have q:=(hF.tree htt.1).1;have hrow:=htt.2.row hF rb.1.1 rb.1.2 uv (by omega);have:=hT.2.1.2 c ⟨hc.1,by have:=hT.2.1.1.2.1;omega,.inr ⟨htt.1,uvc.trans hrow⟩⟩;omega
   refine⟨⟨hR.1.1,by rw[<-e];exact hb.2.1,?_⟩,c,hc,by rw[<-e];exact hcb⟩;have hcase:b0=b\/(GP es pa oi t/\BJ es pa (AD es t) (Aj es b)/\BJ es pa (AD es t) (Aj es b0)):=by
    rcases hT.2.1.1.2.2 with f|f
    .rw[<-f] at hR;exact .inl (Dh hb.1 hR.1)
    rcases hR.1.2.2 with g|g
    .exfalso;have:=hR.1.1.2;rw[g] at this;exact this f.1.2
    exact .inr ⟨f.1,f.2,g.2⟩
   rcases hcase with rfl|⟨f1,f2,f3⟩
   .exact hb.2.2
   have q:=(hF.tree f1).1;rcases hb.2.2 with g|⟨g1,g2⟩
   .exfalso;rw[g] at f2;have:=(f2.le hF rh.1.1 rh.1.2).2;rcases this with a|a
    .rw[a] at q;omega
    omega
   have q2:=(hF.tree g1).1;have hrow:=g2.row hF rb.1.1 rb.1.2 f2 (by omega);exact .inr ⟨g1,f3.trans hrow⟩
  intro h k hh hk hne hv;exact⟨fun b b' hb hb'=>(hs h k hh hk hne hv).1 _ _ (key hh hk hv hb) (key hh hk hv hb'),fun b b' hb hb'=>(hs h k hh hk hne hv).2 _ _ (key hh hk hv hb) (key hk hh hv.symm hb')⟩
 intro h b b' ho hl hl';show s _=s _;rw[Tp.uniq hF hl hl' ho (Kk hF hl.1.1) (Kk hF hl'.1.1)]
/-! ### the line -/
def Gb(es:List Pr)(he:Int->Int)(s:Int->Bool)(b:Int):Int:=if s b then -(he (AD es b))-1 else he (AD es b)
theorem PA(hF:CD es pa he oi N){b:Int}(hb:DO es pa oi b)(ha:BJ es pa v (Aj es b))(hlt:he (AD es b)<he v):∃m,DS es oi m/\Aj es m=v/\Rt es pa he oi m b:=by
 have rb:=hF.rng hb.1.1;by_cases e:v=Aj es b
 .subst e;exact⟨b,hb.1,rfl,hb,hlt,.inl rfl⟩
 obtain⟨l,hl⟩:=ha.dp;obtain⟨k,k1,k2,k3⟩:=hl.wlk hF rb.1.1 rb.1.2 e;obtain⟨q1,_,q3⟩:=hl.mem hF rb.1.1 rb.1.2 k k3;exact⟨k,q1.1,k2,hb,by rw[k2];exact hlt,.inr ⟨q1,q3⟩⟩
theorem lamT{b:Int}(h:s b=true):Gb es he s b= -(he (AD es b))-1:=by unfold Gb;rw[h,if_pos rfl]
theorem lamF{b:Int}(h:s b=false):Gb es he s b=he (AD es b):=by unfold Gb;rw[h,if_neg (by decide)]
theorem WZ(hF:CD es pa he oi N)(hs:VM es pa he oi s)(hA:Aln es pa he oi s){h k:Int}(hh:DS es oi h)(hk:DS es oi k)(hne:h≠k)(hv:Aj es h=Aj es k):
  (∀b c,Rt es pa he oi h b->Rt es pa he oi k c->Gb es he s b<=Gb es he s c)\/(∀b c,Rt es pa he oi h b->Rt es pa he oi k c->Gb es he s c<=Gb es he s b):=by
 have pos:∀{b h},Rt es pa he oi h b->0<=he (AD es b):=fun hb=>by
  have:=hF.rng hb.1.1.1;exact hF.pos _ this.2.1 this.2.2
 by_cases nb:∃b,Rt es pa he oi h b
 case neg=>exact .inl fun b c hb _=>absurd ⟨b,hb⟩ nb
 by_cases nc:∃c,Rt es pa he oi k c
 case neg=>exact .inl fun b c _ hc=>absurd ⟨c,hc⟩ nc
 obtain⟨b0,hb0,hb0m⟩:=I8 (p:=Rt es pa he oi h) (f:=fun b=>he (AD es b)) (fun b hb=>pos hb) nb;obtain⟨c0,hc0,hc0m⟩:=I8 (p:=Rt es pa he oi k) (f:=fun b=>he (AD es b)) (fun b hb=>pos hb) nc
 -- one lower than the other
 have low:∀{h k b0 c0},DS es oi h->DS es oi k->h≠k->Aj es h=Aj es k->Rt es pa he oi h b0->Rt es pa he oi k c0->(∀c,Rt es pa he oi k c->he (AD es c0)<=he (AD es c))->he (AD es b0)<he (AD es c0)->
   (∀b c,Rt es pa he oi h b->Rt es pa he oi k c->Gb es he s c<=Gb es he s b)\/(∀b c,Rt es pa he oi h b->Rt es pa he oi k c->Gb es he s b<=Gb es he s c):=by
  intro h k b0 c0 hh hk hne hv hb0 hc0 hcm hlt;obtain⟨s1,s2⟩:=hs k h hk hh (Ne.symm hne) hv.symm;have hok:∀c,Rt es pa he oi k c->Ov es pa he oi k h c:=fun c hc=>⟨hc,b0,hb0,by have:=hcm c hc;omega⟩;have hoh:∀b,Rt es pa he oi h b->he (AD es c0)<he (AD es b)->Ov es pa he oi h k b:=fun b hb hl=>⟨hb,c0,hc0,hl⟩;cases e:s c0 with
  | true=>
   left;intro b c hb hc;have e1:=(s1 c c0 (hok c hc) (hok c0 hc0)).trans e;have p1:=pos hb;have p2:=pos hc;rw[lamT e1];cases e2:s b with
   | false=>rw[lamF e2];omega
   | true=>
    rw[lamT e2];by_cases f:he (AD es c0)<he (AD es b)
    .exact absurd (e1.trans e2.symm) (s2 c b (hok c hc) (hoh b hb f))
    have:=hcm c hc;omega
  | false=>
   right;intro b c hb hc;have e1:=(s1 c c0 (hok c hc) (hok c0 hc0)).trans e;have p1:=pos hb;have p2:=pos hc;rw[lamF e1];cases e2:s b with
   | true=>rw[lamT e2];omega
   | false=>
    rw[lamF e2];by_cases f:he (AD es c0)<he (AD es b)
    .exact absurd (e1.trans e2.symm) (s2 c b (hok c hc) (hoh b hb f))
    have:=hcm c hc;omega
 rcases Int.lt_trichotomy (he (AD es b0)) (he (AD es c0)) with c|c|c
 .exact(low hh hk hne hv hb0 hc0 hc0m c).symm
 .-- both as low
  obtain⟨s1,s2⟩:=hs h k hh hk hne hv;obtain⟨s1',_⟩:=hs k h hk hh (Ne.symm hne) hv.symm;have lb0:Lw es pa he oi h b0:=⟨hb0,hb0m⟩;have lc0:Lw es pa he oi k c0:=⟨hc0,hc0m⟩;have oh:∀b,Rt es pa he oi h b->he (AD es b)≠he (AD es b0)->Ov es pa he oi h k b:=fun b hb hl=>⟨hb,c0,hc0,by have:=hb0m b hb;omega⟩;have ok:∀c,Rt es pa he oi k c->he (AD es c)≠he (AD es b0)->Ov es pa he oi k h c:=fun b hb hl=>⟨hb,b0,hb0,by have:=hc0m b hb;omega⟩;have ah:∀b,Rt es pa he oi h b->he (AD es b)=he (AD es b0)->s b=s b0:=fun b hb hl=>hA h b b0 hh ⟨hb,fun c hc=>by have:=hb0m c hc;omega⟩ lb0;have ak:∀c',Rt es pa he oi k c'->he (AD es c')=he (AD es b0)->s c'=s c0:=fun b hb hl=>hA k b c0 hk ⟨hb,fun c' hc=>by have:=hc0m c' hc;omega⟩ lc0
  -- either the lowest of both are on one side, or each is on one side
  have hsplit:(∀b c',Rt es pa he oi h b->Rt es pa he oi k c'->he (AD es b)=he (AD es b0)/\he (AD es c')=he (AD es b0))\/s b0=s c0\/((∀b,Rt es pa he oi h b->s b=s b0)/\∀c',Rt es pa he oi k c'->s c'=s c0):=by
   have rb0:=hF.rng hb0.1.1.1;have rh:=hF.rng hh.1;have uv:=hb0.under hF;have uw:BJ es pa (AD es b0) (Aj es h):=(hF.back hb0.1).1.row hF rb0.1.1 rb0.1.2 uv (by have:=hb0.2.1;omega);have nw:AD es b0≠Aj es h:=fun e=>by have:=hb0.2.1;rw[e] at this;omega
   obtain⟨hp,uw2⟩:=uw.up nw;obtain⟨t1,t2,t3,t4,t5⟩:=hF.par rh.1.1 rh.1.2 hp;by_cases top:he (AD es b0)=he (Aj es (pa (Aj es h)))
   .left;intro b c' hb hc;have a1:=hb.2.1;have a2:=hc.2.1;rw[<-hv] at a2;have a3:=hb0m b hb;have a4:=hc0m c' hc;omega
   right;have hlt:he (AD es b0)<he (Aj es (pa (Aj es h))):=by have:=hb0.2.1;omega
   have inp:∀{m b},Aj es m=Aj es h->Rt es pa he oi m b->he (AD es b)<he (Aj es (pa (Aj es h)))->Rt es pa he oi (pa (Aj es h)) b:=fun{m b} hm hb hl=>
    ⟨hb.1,hl,.inr ⟨t1,by rw[t2,<-hm];exact hb.under hF⟩⟩;by_cases lower:∃d,Rt es pa he oi (pa (Aj es h)) d/\he (AD es d)<he (AD es b0)
   .right;obtain⟨d,hd,hdl⟩:=lower;have ud:BJ es pa (Aj es h) (Aj es d):=by
     rcases hd.2.2 with f|f
     .exact absurd t1.2 (by rw[<-f];exact hd.1.2)
     rw[t2] at f;exact f.2
    obtain⟨m,m1,m2,m3⟩:=PA hF hd.1 ud (by have:=hb0.2.1;omega);have nh:h≠m:=fun e=>by rw[<-e] at m3;have:=hb0m d m3;omega
    have nk:k≠m:=fun e=>by rw[<-e] at m3;have:=hc0m d m3;omega
    exact⟨fun b hb=>(hs h m hh m1 nh m2.symm).1 b b0 ⟨hb,d,m3,by have:=hb0m b hb;omega⟩ ⟨hb0,d,m3,hdl⟩,fun c' hc=>(hs k m hk m1 nk (by rw[m2,hv])).1 c' c0 ⟨hc,d,m3,by have:=hc0m c' hc;omega⟩ ⟨hc0,d,m3,by omega⟩⟩
   left;have lwp:∀{m b},Aj es m=Aj es h->Rt es pa he oi m b->he (AD es b)=he (AD es b0)->Lw es pa he oi (pa (Aj es h)) b:=fun{m b} hm hb hl=>
    ⟨inp hm hb (by omega),fun c' hc=>Classical.byContradiction fun f=>lower ⟨c',hc,by omega⟩⟩;exact hA (pa (Aj es h)) b0 c0 t1.1 (lwp rfl hb0 rfl) (lwp hv.symm hc0 c.symm)
  have L:∀b,Gb es he s b=if s b then -(he (AD es b))-1 else he (AD es b):=fun _=>rfl
  rcases hsplit with hsp|hsp|⟨q1,q2⟩
  .-- all at one height
   have e1:∀b,Rt es pa he oi h b->Gb es he s b=Gb es he s b0:=fun b hb=>by rw[L,L,ah b hb (hsp b c0 hb hc0).1,(hsp b c0 hb hc0).1]
   have e2:∀c',Rt es pa he oi k c'->Gb es he s c'=Gb es he s c0:=fun c' hc=>by rw[L,L,ak c' hc (hsp b0 c' hb0 hc).2,(hsp b0 c' hb0 hc).2,<-c]
   rcases Int.le_total (Gb es he s b0) (Gb es he s c0) with g|g
   .exact .inl fun b c' hb hc=>by rw[e1 b hb,e2 c' hc];exact g
   exact .inr fun b c' hb hc=>by rw[e1 b hb,e2 c' hc];exact g
  .-- the lowest on one side
   -- the value x that parts them
   have hmid:∀b,Rt es pa he oi h b->∀c',Rt es pa he oi k c'->∀x,x=(if s b0 then -(he (AD es b0))-1 else he (AD es b0))->(Gb es he s b=x\/(Ov es pa he oi h k b/\if s b then Gb es he s b<=x else x<=Gb es he s b))/\(Gb es he s c'=x\/(Ov es pa he oi k h c'/\if s c' then Gb es he s c'<=x else x<=Gb es he s c')):=by
    intro b hb c' hc x hx;have p0:=pos hb0;have p1:=hb0m b hb;have p2:=hc0m c' hc;constructor
    .by_cases f:he (AD es b)=he (AD es b0)
     .left;rw[L,ah b hb f,f,hx]
     right;refine⟨oh b hb f,?_⟩;rw[L,hx];cases s b<;>cases s b0<;>simp<;>omega
    by_cases f:he (AD es c')=he (AD es b0)
    .left;rw[L,ak c' hc f,<-hsp,f,hx]
    right;refine⟨ok c' hc f,?_⟩;rw[L,hx];cases s c'<;>cases s b0<;>simp<;>omega
   by_cases f:∃b1,Ov es pa he oi h k b1/\s b1=true
   .obtain⟨b1,o1,e1⟩:=f;left;intro b c' hb hc;obtain⟨m1,m2⟩:=hmid b hb c' hc _ rfl;have a1:Gb es he s b<=(if s b0 then -(he (AD es b0))-1 else he (AD es b0)):=by
     rcases m1 with m1|⟨o,m1⟩
     .omega
     rw[if_pos ((s1 b b1 o o1).trans e1)] at m1;exact m1
    have a2:(if s b0 then -(he (AD es b0))-1 else he (AD es b0))<=Gb es he s c':=by
     rcases m2 with m2|⟨o,m2⟩
     .omega
     rw[if_neg (fun e=>s2 b1 c' o1 o (e1.trans e.symm))] at m2;exact m2
    omega
   by_cases g:∃c1,Ov es pa he oi k h c1/\s c1=false
   .obtain⟨c1,o1,e1⟩:=g;left;intro b c' hb hc;obtain⟨m1,m2⟩:=hmid b hb c' hc _ rfl;have a1:Gb es he s b<=(if s b0 then -(he (AD es b0))-1 else he (AD es b0)):=by
     rcases m1 with m1|⟨o,m1⟩
     .omega
     have:=s2 b c1 o o1;rw[e1] at this;rw[if_pos (by cases e:s b<;>simp[e] at this ⊢)] at m1;exact m1
    have a2:(if s b0 then -(he (AD es b0))-1 else he (AD es b0))<=Gb es he s c':=by
     rcases m2 with m2|⟨o,m2⟩
     .omega
     rw[if_neg (by rw[s1' c' c1 o o1,e1];decide)] at m2;exact m2
    omega
   right;intro b c' hb hc;obtain⟨m1,m2⟩:=hmid b hb c' hc _ rfl;have a1:(if s b0 then -(he (AD es b0))-1 else he (AD es b0))<=Gb es he s b:=by
    rcases m1 with m1|⟨o,m1⟩
    .omega
    rw[if_neg (fun e=>f ⟨b,o,e⟩)] at m1;exact m1
   have a2:Gb es he s c'<=(if s b0 then -(he (AD es b0))-1 else he (AD es b0)):=by
    rcases m2 with m2|⟨o,m2⟩
    .omega
    rw[if_pos (by cases e:s c' with
     | true=>rfl
     | false=>exact absurd ⟨c',o,e⟩ g)] at m2;exact m2
   omega
  -- each on one side
  have e1:∀b,Rt es pa he oi h b->Gb es he s b=if s b0 then -(he (AD es b))-1 else he (AD es b):=fun b hb=>by rw[L,q1 b hb]
  have e2:∀c',Rt es pa he oi k c'->Gb es he s c'=if s c0 then -(he (AD es c'))-1 else he (AD es c'):=fun c' hc=>by rw[L,q2 c' hc]
  by_cases d:s b0=s c0
  .-- not both have higher ones
   by_cases f:∃b1,Rt es pa he oi h b1/\he (AD es b1)≠he (AD es b0)
   .obtain⟨b1,r1,n1⟩:=f;have hk0:∀c',Rt es pa he oi k c'->he (AD es c')=he (AD es b0):=fun c' hc=>Classical.byContradiction fun n2=>s2 b1 c' (oh b1 r1 n1) (ok c' hc n2) (by rw[q1 b1 r1,q2 c' hc,d]);cases g:s b0 with
    | true=>
     left;intro b c' hb hc;rw[e1 b hb,e2 c' hc,<-d,g,if_pos rfl,if_pos rfl,hk0 c' hc];have:=hb0m b hb;omega
    | false=>
     right;intro b c' hb hc;rw[e1 b hb,e2 c' hc,<-d,g,if_neg (by decide),if_neg (by decide),hk0 c' hc];have:=hb0m b hb;omega
   have hh0:∀b,Rt es pa he oi h b->he (AD es b)=he (AD es b0):=fun b hb=>Classical.byContradiction fun n=>f ⟨b,hb,n⟩;cases g:s b0 with
   | true=>
    right;intro b c' hb hc;rw[e1 b hb,e2 c' hc,<-d,g,if_pos rfl,if_pos rfl,hh0 b hb];have:=hc0m c' hc;omega
   | false=>
    left;intro b c' hb hc;rw[e1 b hb,e2 c' hc,<-d,g,if_neg (by decide),if_neg (by decide),hh0 b hb];have:=hc0m c' hc;omega
  cases g:s b0 with
  | true=>
   have g2:s c0=false:=by cases g3:s c0 with
    | true=>exact absurd (g.trans g3.symm) d
    | false=>rfl
   left;intro b c' hb hc;rw[e1 b hb,e2 c' hc,g,g2,if_pos rfl,if_neg (by decide)];have:=pos hb;have:=pos hc;omega
  | false=>
   have g2:s c0=true:=by cases g3:s c0 with
    | true=>rfl
    | false=>exact absurd (g.trans g3.symm) d
   right;intro b c' hb hc;rw[e1 b hb,e2 c' hc,g,g2,if_pos rfl,if_neg (by decide)];have:=pos hb;have:=pos hc;omega
 exact low hk hh (Ne.symm hne) hv.symm hc0 hb0 hb0m c |>.elim (fun h=>.inl fun b c' hb hc=>h c' b hc hb) (fun h=>.inr fun b c' hb hc=>h c' b hc hb)
end
end
section
open Classical
section
variable(es:List Pr)(pa he oi:Int->Int)(N:Int)
def Rv(v b:Int):Prop:=DO es pa oi b/\BJ es pa v (Aj es b)/\he (AD es b)<he v
def OM(v b:Int):Prop:=Rv es pa he oi v b/\∀c,Rv es pa he oi v c->he (AD es b)<=he (AD es c)
def Alv(s:Int->Bool):Prop:=∀v b b',0<=v->v<N->OM es pa he oi v b->OM es pa he oi v b'->s b=s b'
def Fk(s:Int->Bool)(D:List Int):Prop:=∀h k,h∈D->k∈D->h≠k->
 (∀b b',Ov es pa he oi h k b->Ov es pa he oi h k b'->s b=s b')/\(∀b b',Ov es pa he oi h k b->Ov es pa he oi k h b'->s b≠s b')
def Ful(s:Int->Bool)(y:Int):Prop:=(∀h k,DS es oi h->DS es oi k->h≠k->Aj es h=y->Aj es k=y->
 (∀b b',Ov es pa he oi h k b->Ov es pa he oi h k b'->s b=s b')/\(∀b b',Ov es pa he oi h k b->Ov es pa he oi k h b'->s b≠s b'))/\
 ∀b b',OM es pa he oi y b->OM es pa he oi y b'->s b=s b'
def SubE(s:Int->Bool)(h:Int):Prop:=GP es pa oi h->∀y,0<=y->y<N->BJ es pa (AD es h) y->Ful es pa he oi s y
def Xs(D:List Int)(b:Int):Prop:=∃h,h∈D/\Rt es pa he oi h b
def ID(D:List Int)(b:Int):Prop:=Xs es pa he oi D b/\∀c,Xs es pa he oi D c->he (AD es b)<=he (AD es c)
def Nk(s:Int->Bool)(D:List Int):Prop:=(∀h,h∈D->SubE es pa he oi N s h)/\Fk es pa he oi s D/\∀b b',ID es pa he oi D b->ID es pa he oi D b'->s b=s b'
end
abbrev PL:=List (List Int×List Int)
def B7(p:List Int×List Int):List Int:=p.1++p.2
def Bm(P:PL):List Int:=P.flatMap B7
def A0n(s:Int->Bool)(P:PL):Prop:=∀p,p∈P->(∀x y,x∈p.1->y∈p.1->s x=s y)/\(∀x y,x∈p.2->y∈p.2->s x=s y)/\∀x y,x∈p.1->y∈p.2->s x≠s y
structure Gx (es:List Pr) (pa he oi:Int->Int) (N:Int) (D:List Int) (P:PL):Prop where
 cov:∀b,Xs es pa he oi D b↔b∈Bm P
 nod:(Bm P).Nodup
 com:∀s,Nk es pa he oi N s D->A0n s P
 snd:∀τ,A0n τ P->∃s,Nk es pa he oi N s D/\∀b,Xs es pa he oi D b->s b=τ b
 ord:P.Pairwise fun p q=>∀x y,x∈B7 p->y∈B7 q->he (AD es x)<=he (AD es y)
 lev:∀p P',P=p::P'->(p.1=[]\/p.2=[])/\(∀x,x∈B7 p->ID es pa he oi D x)/\∀x,ID es pa he oi D x->x∈B7 p
 ful:∀p,p∈P->B7 p≠[]
section
variable{es:List Pr}{pa he oi:Int->Int}{N:Int}{D:List Int}{P Q:PL}{s:Int->Bool}{v:Int}
theorem By(P Q:PL):Bm (P++Q)=Bm P++Bm Q:=by unfold Bm;rw[List.flatMap_append]
theorem Bx{x:Int}:x∈Bm P↔∃p,p∈P/\x∈B7 p:=by unfold Bm;rw[A1R]
theorem AJ{x:Int}{p:List Int×List Int}:x∈B7 p↔x∈p.1\/x∈p.2:=by unfold B7;rw[A1C]
/-! ### sides with the lowest returns of each vertex alike -/
theorem con_alv(hF:CD es pa he oi N)(hs:VM es pa he oi s):∃s',VM es pa he oi s'/\Alv es pa he oi N s':=by
 -- the topmost vertex of which b is a lowest return, and one of these returns
 have hex:∀b,∃t:Option Int,(∀v,0<=v->v<N->OM es pa he oi v b->∃u,t=some u)/\∀u,t=some u->(0<=u/\u<N)/\OM es pa he oi u b/\∀v,0<=v->v<N->OM es pa he oi v b->he u<=he v:=fun b=>by
  by_cases c:∃v,(0<=v/\v<N)/\OM es pa he oi v b
  .obtain⟨u,⟨h1,h2⟩,h3⟩:=I8 (p:=fun v=>(0<=v/\v<N)/\OM es pa he oi v b) (f:=he) (fun v hv=>hF.pos v hv.1.1 hv.1.2) c;exact⟨some u,fun _ _ _ _=>⟨u,rfl⟩,fun w hw=>by cases hw;exact⟨h1,h2,fun v a b hl=>h3 v ⟨⟨a,b⟩,hl⟩⟩⟩
  exact⟨none,fun v a b hl=>absurd ⟨v,⟨a,b⟩,hl⟩ c,fun u hu=>by cases hu⟩
 have hrep:∀u,∃r,∀b,OM es pa he oi u b->OM es pa he oi u r:=fun u=>by
  by_cases c:∃b,OM es pa he oi u b
  .obtain⟨b,hb⟩:=c;exact⟨b,fun _ _=>hb⟩
  exact⟨0,fun b hb=>absurd ⟨b,hb⟩ c⟩
 obtain⟨T,hT⟩:=Classical.axiomOfChoice hex;obtain⟨R,hR⟩:=Classical.axiomOfChoice hrep;refine⟨fun b=>match T b with|some u=>s (R u)|none=>s b,?_,?_⟩
 .have key:∀{h k b},DS es oi h->DS es oi k->Aj es h=Aj es k->Ov es pa he oi h k b->∃b0,Ov es pa he oi h k b0/\(match T b with|some u=>s (R u)|none=>s b)=s b0:=by
   intro h k b hh hk hv ho;obtain⟨t1,t2⟩:=hT b;cases e:T b with
   | none=>exact⟨b,ho,rfl⟩
   | some u=>
    obtain⟨⟨u0,u1⟩,hl,hmin⟩:=t2 u e;refine⟨R u,?_,rfl⟩;have hr:=hR u b hl;obtain⟨hb,c,hc,hcb⟩:=ho;have rb:=hF.rng hb.1.1.1;have rh:=hF.rng hh.1;have uv:=hb.under hF;have uvc:BJ es pa (Aj es h) (Aj es c):=by rw[hv];exact hc.under hF
    have e1:he (AD es (R u))=he (AD es b):=by have:=hl.2 _ hr.1;have:=hr.2 _ hl.1;omega
    have hlt:he (Aj es h)<he u:=Classical.byContradiction fun hn=>by
     have hrow:=hl.1.2.1.row hF rb.1.1 rb.1.2 uv (by omega);have:=hl.2 c ⟨hc.1,uvc.trans hrow,by have:=hl.1.2.2;omega⟩;omega
    refine⟨⟨hr.1.1,by rw[e1];exact hb.2.1,?_⟩,c,hc,by rw[e1];exact hcb⟩;rcases hb.2.2 with f|⟨f1,f2⟩
    .exfalso;have:=(hl.1.2.1.le hF rb.1.1 rb.1.2).2;rw[f] at this;rcases this with g|g
     .rw[g] at hlt;omega
     omega
    have q:=(hF.tree f1).1;have hrow:=f2.row hF rb.1.1 rb.1.2 hl.1.2.1 (by omega);exact .inr ⟨f1,hr.1.2.1.trans hrow⟩
  intro h k hh hk hne hv;refine⟨fun b b' hb hb'=>?_,fun b b' hb hb'=>?_⟩
  .obtain⟨c,c1,c2⟩:=key hh hk hv hb;obtain⟨d,d1,d2⟩:=key hh hk hv hb';dsimp only;rw[c2,d2];exact(hs h k hh hk hne hv).1 _ _ c1 d1
  obtain⟨c,c1,c2⟩:=key hh hk hv hb;obtain⟨d,d1,d2⟩:=key hk hh hv.symm hb';dsimp only;rw[c2,d2];exact(hs h k hh hk hne hv).2 _ _ c1 d1
 intro v b b' v0 v1 hl hl';obtain⟨t1,t2⟩:=hT b;obtain⟨t1',t2'⟩:=hT b';obtain⟨u,hu⟩:=t1 v v0 v1 hl;obtain⟨u',hu'⟩:=t1' v v0 v1 hl';have move:∀{b b' u},OM es pa he oi v b->OM es pa he oi v b'->(0<=u/\u<N)->OM es pa he oi u b->he u<=he v->OM es pa he oi u b':=fun{b b' u} hl hl' hu hlu hle=>by
  have rb:=hF.rng hl.1.1.1.1;have hrow:=hlu.1.2.1.row hF rb.1.1 rb.1.2 hl.1.2.1 hle;have e1:he (AD es b')=he (AD es b):=by have:=hl.2 _ hl'.1;have:=hl'.2 _ hl.1;omega
  exact⟨⟨hl'.1.1,hl'.1.2.1.trans hrow,by rw[e1];exact hlu.1.2.2⟩,fun c hc=>by rw[e1];exact hlu.2 c hc⟩
 obtain⟨p1,p2,p3⟩:=t2 u hu;obtain⟨q1,q2,q3⟩:=t2' u' hu';have m1:=move hl hl' p1 p2 (p3 v v0 v1 hl);have m2:=move hl' hl q1 q2 (q3 v v0 v1 hl');have a1:=q3 u p1.1 p1.2 m1;have a2:=p3 u' q1.1 q1.2 m2;have rb:=hF.rng hl.1.1.1.1;have:=p2.1.2.1.same hF m2.1.2.1 rb.1.1 rb.1.2 (by omega);subst this;dsimp only;rw[hu,hu']
/-! ### from edge to edge -/
theorem SubE.congr(hF:CD es pa he oi N){h:Int}{s':Int->Bool}(hs:SubE es pa he oi N s h)(e:∀b,DO es pa oi b->BJ es pa (AD es h) (Aj es b)->s b=s' b):SubE es pa he oi N s' h:=by
 intro ht y y0 y1 hy;obtain⟨h1,h2⟩:=hs ht y y0 y1 hy;have ov:∀{a k b},Aj es a=y->Ov es pa he oi a k b->s b=s' b:=fun{a k b} ha ho=>e b ho.1.1 (by have:=ho.1.under hF;rw[ha] at this;exact this.trans hy);refine⟨fun a k ha hk hne hay hky=>⟨fun b b' hb hb'=>?_,fun b b' hb hb'=>?_⟩,fun b b' hb hb'=>?_⟩
 .rw[<-ov hay hb,<-ov hay hb'];exact(h1 a k ha hk hne hay hky).1 b b' hb hb'
 .rw[<-ov hay hb,<-ov hky hb'];exact(h1 a k ha hk hne hay hky).2 b b' hb hb'
 rw[<-e b hb.1.1 (hb.1.2.1.trans hy),<-e b' hb'.1.1 (hb'.1.2.1.trans hy)];exact h2 b b' hb hb'
theorem UK:Gx es pa he oi N [] []:=by
 refine⟨fun b=>?_,by simp[Bm],fun s _ p hp=>by simp at hp,fun τ _=>⟨τ,⟨fun h hh=>by simp at hh,fun h k hh=>by simp at hh,fun b b' hb=>?_⟩,fun _ _=>rfl⟩,List.Pairwise.nil,fun p P' h=>by simp at h,fun p hp=>by simp at hp⟩
 .constructor
  .rintro⟨h,hh,_⟩;simp at hh
  intro h;simp[Bm] at h
 obtain⟨⟨h,hh,_⟩,_⟩:=hb;simp at hh
theorem XS(hF:CD es pa he oi N){b:Int}(hb:DO es pa oi b):Gx es pa he oi N [b] [([],[b])]:=by
 have hx:∀c,Xs es pa he oi [b] c↔c=b:=fun c=>by
  constructor
  .rintro⟨h,hh,hr⟩;simp at hh;subst hh;exact Dh hb hr
  rintro rfl;exact⟨c,by simp,Rt.self hF hb⟩
 refine⟨fun c=>by rw[hx];simp[Bm,B7],by simp[Bm,B7],fun s _ p hp=>?_,fun τ _=>⟨τ,⟨fun h hh ht=>?_,fun h k hh hk hne=>?_,fun c c' hc hc'=>?_⟩,fun _ _=>rfl⟩,by simp,fun p P' h=>?_,fun p hp=>by simp at hp;subst hp;simp[B7]⟩
 .simp at hp;subst hp;exact⟨fun x y hx=>by simp at hx,fun x y hx hy=>by simp at hx hy;rw[hx,hy],fun x y hx=>by simp at hx⟩
 .simp at hh;subst hh;exact absurd ht.2 hb.2
 .simp at hh hk;exact absurd (hh.trans hk.symm) hne
 .rw[(hx c).1 hc.1,(hx c').1 hc'.1]
 simp at h;obtain⟨rfl,rfl⟩:=h;refine⟨.inl rfl,fun x hxm=>?_,fun x hxl=>by rw[(hx x).1 hxl.1];simp[B7]⟩;simp[B7] at hxm;subst hxm;exact⟨(hx x).2 rfl,fun c hc=>by rw[(hx c).1 hc];exact A2g _⟩
structure Outs (es:List Pr) (oi:Int->Int) (v:Int) (D:List Int):Prop where
 orn:∀h,h∈D->DS es oi h/\Aj es h=v
theorem Xs.app{D E:List Int}{b:Int}:Xs es pa he oi (D++E) b↔Xs es pa he oi D b\/Xs es pa he oi E b:=by
 unfold Xs;constructor
 .rintro⟨h,hh,hr⟩;rcases A1C.1 hh with hh|hh
  .exact .inl ⟨h,hh,hr⟩
  exact .inr ⟨h,hh,hr⟩
 rintro(⟨h,hh,hr⟩|⟨h,hh,hr⟩)
 .exact⟨h,by simp[hh],hr⟩
 exact⟨h,by simp[hh],hr⟩
noncomputable def Kz(es:List Pr)(pa he oi:Int->Int)(e:Int)(s1 s2:Int->Bool)(b:Int):Bool:=if b=e\/(GP es pa oi e/\BJ es pa (AD es e) (Aj es b)) then s2 b else s1 b
theorem mix_in{e b:Int}{s1 s2:Int->Bool}(hb:Rt es pa he oi e b):Kz es pa he oi e s1 s2 b=s2 b:=by
 unfold Kz;rw[if_pos];rcases hb.2.2 with h|h
 .exact .inl h
 exact .inr h
theorem U5(hF:CD es pa he oi N){e h b:Int}{s1 s2:Int->Bool}(he':DS es oi e)(hh:DS es oi h)(hne:h≠e)(hv:Aj es h=Aj es e)(hb:DO es pa oi b)(hu:b=h\/(GP es pa oi h/\BJ es pa (AD es h) (Aj es b))):Kz es pa he oi e s1 s2 b=s1 b:=by
 unfold Kz;rw[if_neg];have rb:=hF.rng hb.1.1;rintro(rfl|⟨t1,t2⟩)
 .rcases hu with h1|⟨u1,u2⟩
  .exact hne h1.symm
  have q:=(hF.tree u1).1;have a:=(u2.le hF rb.1.1 rb.1.2).2;rw[hv] at q;rcases a with a|a
  .rw[a] at q;omega
  omega
 have q:=(hF.tree t1).1;rcases hu with rfl|⟨u1,u2⟩
 .have a:=(t2.le hF rb.1.1 rb.1.2).2;rw[<-hv] at q;rcases a with a|a
  .rw[a] at q;omega
  omega
 have q2:=(hF.tree u1).1;have:=u2.same hF t2 rb.1.1 rb.1.2 (by rw[q,q2,hv]);exact hne (by rw[<-u1.2,this,t1.2])
theorem Rz(hF:CD es pa he oi N){e:Int}{s1 s2:Int->Bool}(hD:Outs es oi v (D++[e]))(hn:e∉D)(h1:Nk es pa he oi N s1 D)(h2:Nk es pa he oi N s2 [e]):
  (∀h,h∈D++[e]->SubE es pa he oi N (Kz es pa he oi e s1 s2) h)/\Fk es pa he oi (Kz es pa he oi e s1 s2) D/\(∀b,Xs es pa he oi D b->Kz es pa he oi e s1 s2 b=s1 b)/\∀b,Xs es pa he oi [e] b->Kz es pa he oi e s1 s2 b=s2 b:=by
 have oe:=hD.orn e (by simp);have od:∀h,h∈D->DS es oi h/\Aj es h=v:=fun h hh=>hD.orn h (by simp[hh]);have hx:∀b,Xs es pa he oi D b->Kz es pa he oi e s1 s2 b=s1 b:=fun b hb=>by
  obtain⟨h,hh,hr⟩:=hb;obtain⟨a1,a2⟩:=od h hh;exact U5 hF oe.1 a1 (fun c=>hn (by rw[<-c];exact hh)) (by rw[a2,oe.2]) hr.1 hr.2.2
 have hxe:∀b,Xs es pa he oi [e] b->Kz es pa he oi e s1 s2 b=s2 b:=fun b hb=>by
  obtain⟨h,hh,hr⟩:=hb;simp at hh;subst hh;exact mix_in hr
 refine⟨fun h hh=>?_,fun h k hh hk hne=>?_,hx,hxe⟩
 .rcases A1C.1 hh with hh|hh
  .obtain⟨a1,a2⟩:=od h hh;by_cases ht:GP es pa oi h
   .exact(h1.1 h hh).congr hF fun b hb hu=>(U5 hF oe.1 a1 (fun c=>hn (by rw[<-c];exact hh)) (by rw[a2,oe.2]) hb (.inr ⟨ht,hu⟩)).symm
   exact fun h=>absurd h ht
  simp at hh;subst hh;by_cases ht:GP es pa oi h
  .exact(h2.1 h (by simp)).congr hF fun b hb hu=>by unfold Kz;rw[if_pos (.inr ⟨ht,hu⟩)]
  exact fun h=>absurd h ht
 obtain⟨f1,f2⟩:=h1.2.1 h k hh hk hne;have ov:∀{a c b},a∈D->Ov es pa he oi a c b->Kz es pa he oi e s1 s2 b=s1 b:=fun{a c b} ha ho=>hx b ⟨a,ha,ho.1⟩;exact⟨fun b b' hb hb'=>by rw[ov hh hb,ov hh hb'];exact f1 b b' hb hb',fun b b' hb hb'=>by rw[ov hh hb,ov hk hb'];exact f2 b b' hb hb'⟩
theorem XR(hF:CD es pa he oi N){e:Int}(hD:Outs es oi v (D++[e]))(hn:e∉D)(h1:Gx es pa he oi N D P)(h2:Gx es pa he oi N [e] []):Gx es pa he oi N (D++[e]) P:=by
 have hno:∀b,¬Xs es pa he oi [e] b:=fun b hb=>by have:=(h2.cov b).1 hb;simp[Bm] at this
 have hX:∀b,Xs es pa he oi (D++[e]) b↔Xs es pa he oi D b:=fun b=>by
  rw[Xs.app];exact⟨fun h=>h.resolve_right (hno b),.inl⟩
 have hLo:∀b,ID es pa he oi (D++[e]) b↔ID es pa he oi D b:=fun b=>by
  unfold ID;rw[hX];simp only[hX]
 refine⟨fun b=>by rw[hX];exact h1.cov b,h1.nod,fun s hs=>h1.com s ⟨fun h hh=>hs.1 h (by simp[hh]),fun h k hh hk=>hs.2.1 h k (by simp[hh]) (by simp[hk]),fun b b' hb hb'=>hs.2.2 b b' ((hLo b).2 hb) ((hLo b').2 hb')⟩,fun τ hτ=>?_,h1.ord,fun p P' hp=>?_,h1.ful⟩
 .obtain⟨s1,p1,e1⟩:=h1.snd τ hτ;obtain⟨s2,p2,_⟩:=h2.snd τ (fun p hp=>by simp at hp);obtain⟨q1,q2,q3,q4⟩:=Rz hF hD hn p1 p2;refine⟨_,⟨q1,fun h k hh hk hne=>?_,fun b b' hb hb'=>?_⟩,fun b hb=>by rw[q3 b ((hX b).1 hb),e1 b ((hX b).1 hb)]⟩
  .have hin:∀{a c b},a∈D++[e]->c∈D++[e]->Ov es pa he oi a c b->a∈D/\c∈D:=fun{a c b} ha hc ho=>by
    constructor
    .rcases A1C.1 ha with ha|ha
     .exact ha
     simp at ha;subst ha;exact absurd ⟨a,by simp,ho.1⟩ (hno b)
    rcases A1C.1 hc with hc|hc
    .exact hc
    simp at hc;subst hc;obtain⟨_,d,hd,_⟩:=ho;exact absurd ⟨c,by simp,hd⟩ (hno d)
   refine⟨fun b b' hb hb'=>?_,fun b b' hb hb'=>?_⟩
   .obtain⟨i1,i2⟩:=hin hh hk hb;exact(q2 h k i1 i2 hne).1 b b' hb hb'
   obtain⟨i1,i2⟩:=hin hh hk hb;exact(q2 h k i1 i2 hne).2 b b' hb hb'
  have hb:=(hLo b).1 hb;have hb':=(hLo b').1 hb';rw[q3 b hb.1,q3 b' hb'.1];exact p1.2.2 b b' hb hb'
 obtain⟨l1,l2,l3⟩:=h1.lev p P' hp;exact⟨l1,fun x hx=>(hLo x).2 (l2 x hx),fun x hx=>l3 x ((hLo x).1 hx)⟩
end
end
section
open Classical
def HD(q:Int->Bool)(P:PL):PL:=(P.map fun p=>(p.1.filter q,p.2.filter q)).filter fun p=>decide (B7 p≠[])
section
variable{q:Int->Bool}{P:PL}
theorem Hg{p:List Int×List Int}:p∈HD q P↔∃r,r∈P/\p=(r.1.filter q,r.2.filter q)/\B7 p≠[]:=by
 unfold HD;rw[A1D,A1G];constructor
 .rintro⟨⟨r,hr,rfl⟩,h⟩;exact⟨r,hr,rfl,by simpa using h⟩
 rintro⟨r,hr,rfl,h⟩;exact⟨⟨r,hr,rfl⟩,by simpa using h⟩
theorem JZ:Bm (HD q P)=(Bm P).filter q:=by
 induction P with
 | nil=>rfl
 | cons p P ih=>
  have e1:Bm (p::P)=B7 p++Bm P:=by simp[Bm]
  have e2:(B7 p).filter q=B7 (p.1.filter q,p.2.filter q):=by unfold B7;rw[A2U]
  rw[e1,A2U,<-ih,e2];unfold HD;rw[A1M];by_cases c:B7 (p.1.filter q,p.2.filter q)=[]
  .rw[List.filter_cons_of_neg (by simpa using c),c,A1N]
  rw[A3p (by simpa using c)];simp[Bm]
theorem UM{τ:Int->Bool}:∀{P:PL},(Bm P).Nodup->A0n τ (HD q P)->∃τ',A0n τ' P/\∀x,x∈Bm P->q x=true->τ' x=τ x
 | [],_,_=>⟨τ,fun p hp=>by simp at hp,fun x hx=>by simp[Bm] at hx⟩
 | p::P,hn,hr=>by
  have e1:Bm (p::P)=B7 p++Bm P:=by simp[Bm]
  rw[e1,A1I] at hn;obtain⟨n1,n2,n3⟩:=hn;have hsub:∀r,r∈HD q P->r∈HD q (p::P):=fun r h=>by
   obtain⟨a,ha,e,h2⟩:=Hg.1 h;exact Hg.2 ⟨a,by simp[ha],e,h2⟩
  obtain⟨t,t1,t2⟩:=UM (P:=P) n2 fun r hr'=>hr r (hsub r hr');have n4:∀x,x∈p.1->x∉p.2:=fun x h1 h2=>by
   unfold B7 at n1;rw[A1I] at n1;exact n1.2.2 x h1 x h2 rfl
  -- the way the pair is turned
  obtain⟨o,ho1,ho2⟩:∃o:Bool,(∀x,x∈p.1->q x=true->τ x=o)/\∀x,x∈p.2->q x=true->τ x= !o:=by
   by_cases hne:B7 (p.1.filter q,p.2.filter q)=[]
   .unfold B7 at hne;rw[A3A] at hne;dsimp only at hne;exact⟨true,fun x hx hq=>by have:=A1D.2 ⟨hx,hq⟩;rw[hne.1] at this;simp at this,fun x hx hq=>by have:=A1D.2 ⟨hx,hq⟩;rw[hne.2] at this;simp at this⟩
   obtain⟨r1,r2,r3⟩:=hr _ (Hg.2 ⟨p,by simp,rfl,hne⟩);by_cases c:∃x,x∈p.1/\q x=true
   .obtain⟨x,hx,hq⟩:=c;have hxm:=A1D.2 ⟨hx,hq⟩;refine⟨τ x,fun y hy hqy=>r1 y x (A1D.2 ⟨hy,hqy⟩) hxm,fun y hy hqy=>?_⟩;have:=r3 x y hxm (A1D.2 ⟨hy,hqy⟩);cases e1:τ x<;>cases e2:τ y<;>simp[e1,e2] at this ⊢
   by_cases d:∃x,x∈p.2/\q x=true
   .obtain⟨x,hx,hq⟩:=d;have hxm:=A1D.2 ⟨hx,hq⟩;exact⟨!τ x,fun y hy hqy=>absurd ⟨y,hy,hqy⟩ c,fun y hy hqy=>by rw[r2 y x (A1D.2 ⟨hy,hqy⟩) hxm];simp⟩
   exact⟨true,fun y hy hqy=>absurd ⟨y,hy,hqy⟩ c,fun y hy hqy=>absurd ⟨y,hy,hqy⟩ d⟩
  have v1:∀x,x∈p.1->(if x∈p.1 then o else if x∈p.2 then !o else t x)=o:=fun x hx=>if_pos hx;have v2:∀x,x∈p.2->(if x∈p.1 then o else if x∈p.2 then !o else t x)= !o:=fun x hx=>by rw[if_neg (fun h=>n4 x h hx),if_pos hx]
  have v3:∀x,x∈Bm P->(if x∈p.1 then o else if x∈p.2 then !o else t x)=t x:=fun x hx=>by
   rw[if_neg (fun h=>n3 x (AJ.2 (.inl h)) x hx rfl),if_neg (fun h=>n3 x (AJ.2 (.inr h)) x hx rfl)]
  refine⟨fun x=>if x∈p.1 then o else if x∈p.2 then !o else t x,fun r hr'=>?_,fun x hx hq=>?_⟩
  .rcases A1H.1 hr' with rfl|hr'
   .refine⟨fun x y hx hy=>?_,fun x y hx hy=>?_,fun x y hx hy=>?_⟩
    .show(if _ then _ else _)=(if _ then _ else _);rw[v1 x hx,v1 y hy]
    .show(if _ then _ else _)=(if _ then _ else _);rw[v2 x hx,v2 y hy]
    show(if _ then _ else _)≠(if _ then _ else _);rw[v1 x hx,v2 y hy];cases o<;>decide
   obtain⟨r1,r2,r3⟩:=t1 r hr';have hm1:∀x,x∈r.1->x∈Bm P:=fun x hx=>Bx.2 ⟨r,hr',AJ.2 (.inl hx)⟩;have hm2:∀x,x∈r.2->x∈Bm P:=fun x hx=>Bx.2 ⟨r,hr',AJ.2 (.inr hx)⟩;refine⟨fun x y hx hy=>?_,fun x y hx hy=>?_,fun x y hx hy=>?_⟩
   .show(if _ then _ else _)=(if _ then _ else _);rw[v3 x (hm1 x hx),v3 y (hm1 y hy)];exact r1 x y hx hy
   .show(if _ then _ else _)=(if _ then _ else _);rw[v3 x (hm2 x hx),v3 y (hm2 y hy)];exact r2 x y hx hy
   show(if _ then _ else _)≠(if _ then _ else _);rw[v3 x (hm1 x hx),v3 y (hm2 y hy)];exact r3 x y hx hy
  show(if _ then _ else _)=_;rw[e1] at hx;rcases A1C.1 hx with hx|hx
  .rcases AJ.1 hx with hx|hx
   .rw[v1 x hx,ho1 x hx hq]
   rw[v2 x hx,ho2 x hx hq]
  rw[v3 x hx,t2 x hx hq]
end
section
variable{es:List Pr}{pa he oi:Int->Int}{N:Int}{D:List Int}{P Q:PL}{s:Int->Bool}{v w:Int}
theorem A0n.tr{q:Int->Bool}(h:A0n s P):A0n s (HD q P):=fun p hp=>by
 obtain⟨r,hr,rfl,_⟩:=Hg.1 hp;obtain⟨r1,r2,r3⟩:=h r hr;exact⟨fun x y hx hy=>r1 x y (A1D.1 hx).1 (A1D.1 hy).1,fun x y hx hy=>r2 x y (A1D.1 hx).1 (A1D.1 hy).1,fun x y hx hy=>r3 x y (A1D.1 hx).1 (A1D.1 hy).1⟩
theorem LE(hF:CD es pa he oi N)(hD:∀h,h∈D↔DS es oi h/\Aj es h=w){b:Int}:Xs es pa he oi D b↔Rv es pa he oi w b:=by
 constructor
 .rintro⟨h,hh,hr⟩;obtain⟨a1,a2⟩:=(hD h).1 hh;have:=hr.under hF;rw[a2] at this;exact⟨hr.1,this,by have:=hr.2.1;rw[a2] at this;exact this⟩
 rintro⟨a1,a2,a3⟩;obtain⟨m,m1,m2,m3⟩:=PA hF a1 a2 a3;exact⟨m,(hD m).2 ⟨m1,m2⟩,m3⟩
theorem My(hF:CD es pa he oi N)(hD:∀h,h∈D↔DS es oi h/\Aj es h=w){b:Int}:ID es pa he oi D b↔OM es pa he oi w b:=by
 unfold ID OM;rw[LE hF hD];simp only[LE hF hD]
theorem VZ(hF:CD es pa he oi N){h:Int}(hh:GP es pa oi h)(hD:∀k,k∈D↔DS es oi k/\Aj es k=AD es h)(hS:Gx es pa he oi N D P):Gx es pa he oi N [h] (HD (fun b=>decide (he (AD es b)<he (Aj es h))) P):=by
 have q:=(hF.tree hh).1;have r:=hF.rng hh.1.1;have hX:∀b,Xs es pa he oi [h] b↔Xs es pa he oi D b/\he (AD es b)<he (Aj es h):=fun b=>by
  rw[LE hF hD];constructor
  .rintro⟨k,hk,hr⟩;simp at hk;subst hk;rcases hr.2.2 with e|e
   .exact absurd hh.2 (by rw[<-e];exact hr.1.2)
   exact⟨⟨hr.1,e.2,by have:=hr.2.1;omega⟩,hr.2.1⟩
  rintro⟨⟨a1,a2,a3⟩,a4⟩;exact⟨h,by simp,a1,a4,.inr ⟨hh,a2⟩⟩
 have hLo:∀b,ID es pa he oi [h] b->ID es pa he oi D b:=fun b hb=>by
  obtain⟨b1,b2⟩:=hb;obtain⟨b3,b4⟩:=(hX b).1 b1;refine⟨b3,fun c hc=>?_⟩;by_cases c1:he (AD es c)<he (Aj es h)
  .exact b2 c ((hX c).2 ⟨hc,c1⟩)
  omega
 have toD:∀s,Nk es pa he oi N s [h]->Nk es pa he oi N s D:=fun s hs=>by
  have hsub:=hs.1 h (by simp) hh;have hw:=hsub _ r.2.1 r.2.2 .refl;refine⟨fun k hk ht y y0 y1 hy=>hsub y y0 y1 (hy.trans ?_),fun a k ha hk hne=>?_,fun b b' hb hb'=>hw.2 b b' ((My hF hD).1 hb) ((My hF hD).1 hb')⟩
  .have:=(hF.tree ht).2;rw[((hD k).1 hk).2] at this;exact this
  obtain⟨a1,a2⟩:=(hD a).1 ha;obtain⟨k1,k2⟩:=(hD k).1 hk;exact hw.1 a k a1 k1 hne a2 k2
 refine⟨fun b=>?_,?_,fun s hs=>(hS.com s (toD s hs)).tr,fun τ hτ=>?_,?_,fun p P' hp=>?_,fun p hp=>?_⟩
 .rw[hX,JZ,A1D,hS.cov];simp
 .rw[JZ];exact hS.nod.sublist A1X
 .obtain⟨τ',t1,t2⟩:=UM hS.nod hτ;obtain⟨s,s1,s2⟩:=hS.snd τ' t1;refine⟨s,⟨fun k hk ht y y0 y1 hy=>?_,fun a k ha hk hne=>?_,fun b b' hb hb'=>s1.2.2 b b' (hLo b hb) (hLo b' hb')⟩,fun b hb=>?_⟩
  .simp at hk;subst hk;by_cases e:AD es k=y
   .subst e;refine⟨fun a c ha hc hne ha2 hc2=>s1.2.1 a c ((hD a).2 ⟨ha,ha2⟩) ((hD c).2 ⟨hc,hc2⟩) hne,fun b b' hb hb'=>s1.2.2 b b' ((My hF hD).2 hb) ((My hF hD).2 hb')⟩
   obtain⟨l,hl⟩:=hy.dp;obtain⟨a,a1,a2,a3⟩:=hl.wlk hF y0 y1 e;obtain⟨z1,_,z3⟩:=hl.mem hF y0 y1 a a3;exact s1.1 a ((hD a).2 ⟨z1.1,a2⟩) z1 y y0 y1 z3
  .simp at ha hk;exact absurd (ha.trans hk.symm) hne
  obtain⟨b1,b2⟩:=(hX b).1 hb;rw[s2 b b1];exact t2 b ((hS.cov b).1 b1) (by simpa using b2)
 .unfold HD;refine List.Pairwise.sublist A1X ?_;rw[A2b];refine hS.ord.imp fun{a b} hab x y hx hy=>hab x y ?_ ?_
  .rcases AJ.1 hx with hx|hx
   .exact AJ.2 (.inl (A1D.1 hx).1)
   exact AJ.2 (.inr (A1D.1 hx).1)
  rcases AJ.1 hy with hy|hy
  .exact AJ.2 (.inl (A1D.1 hy).1)
  exact AJ.2 (.inr (A1D.1 hy).1)
 .cases P with
  | nil=>simp[HD] at hp
  | cons p0 P0=>
   obtain⟨l1,l2,l3⟩:=hS.lev p0 P0 rfl
   -- something is left, so the lowest are
   have hpm:p∈HD (fun b=>decide (he (AD es b)<he (Aj es h))) (p0::P0):=by rw[hp];simp
   obtain⟨x,hx⟩:∃x,x∈B7 p:=by
    obtain⟨_,_,_,hne⟩:=Hg.1 hpm;exact A2i _ hne
   have hxe:x∈Bm (HD (fun b=>decide (he (AD es b)<he (Aj es h))) (p0::P0)):=Bx.2 ⟨p,hpm,hx⟩;rw[JZ,A1D,<-hS.cov] at hxe;have hxl:he (AD es x)<he (Aj es h):=by simpa using hxe.2
   have kept:∀y,y∈B7 p0->he (AD es y)<he (Aj es h):=fun y hy=>by have:=(l2 y hy).2 x hxe.1;omega
   have e1:p0.1.filter (fun b=>decide (he (AD es b)<he (Aj es h)))=p0.1:=A3D.2 fun y hy=>by simpa using kept y (AJ.2 (.inl hy))
   have e2:p0.2.filter (fun b=>decide (he (AD es b)<he (Aj es h)))=p0.2:=A3D.2 fun y hy=>by simpa using kept y (AJ.2 (.inr hy))
   have e3:p=p0:=by
    unfold HD at hp;rw[A1M,e1,e2,A3p (by simpa using hS.ful p0 (by simp))] at hp;exact(List.cons.inj hp).1.symm
   subst e3;refine⟨l1,fun y hy=>⟨(hX y).2 ⟨(l2 y hy).1,kept y hy⟩,fun c hc=>(l2 y hy).2 c ((hX c).1 hc).1⟩,fun y hy=>l3 y (hLo y hy)⟩
 obtain⟨_,_,_,hne⟩:=Hg.1 hp;exact hne
theorem els_swap{A B:PL}{p:List Int×List Int}:(Bm (A++p::B)).Perm (Bm (A++(p.2,p.1)::B)):=by
 rw[By,By];refine List.Perm.append_left _ ?_;show(B7 p++Bm B).Perm (B7 (p.2,p.1)++Bm B);exact List.Perm.append_right _ A1v
theorem J0{p:List Int×List Int}{x:Int}:x∈B7 (p.2,p.1)↔x∈B7 p:=by rw[AJ,AJ];exact or_comm
theorem QW{A B:PL}{p:List Int×List Int}(h:A0n s (A++p::B)):A0n s (A++(p.2,p.1)::B):=fun r hr=>by
 rcases A1C.1 hr with hr|hr
 .exact h r (by simp[hr])
 rcases A1H.1 hr with rfl|hr
 .obtain⟨a,b,c⟩:=h p (by simp);exact⟨b,a,fun x y hx hy=>(c y x hy hx).symm⟩
 exact h r (by simp[hr])
theorem QS{A B:PL}{p:List Int×List Int}(h:Gx es pa he oi N D (A++p::B)):Gx es pa he oi N D (A++(p.2,p.1)::B):=by
 have hm:∀x,x∈Bm (A++(p.2,p.1)::B)↔x∈Bm (A++p::B):=fun x=>els_swap.symm.mem_iff;refine⟨fun b=>by rw[hm];exact h.cov b,els_swap.nodup_iff.1 h.nod,fun s hs=>QW (h.com s hs),fun τ hτ=>h.snd τ (by have:=QW hτ;exact this),?_,fun r P' hr=>?_,fun r hr=>?_⟩
 .have ho:=h.ord;rw[A2s,A2C] at ho ⊢;obtain⟨o1,⟨o2,o3⟩,o4⟩:=ho;refine⟨o1,⟨fun r hr x y hx hy=>o2 r hr x y (J0.1 hx) hy,o3⟩,fun a ha b hb x y hx hy=>?_⟩;rcases A1H.1 hb with rfl|hb
  .exact o4 a ha p (by simp) x y hx (J0.1 hy)
  exact o4 a ha b (by simp[hb]) x y hx hy
 .cases A with
  | nil=>
   rw[A1N] at hr;obtain⟨rfl,rfl⟩:=List.cons.inj hr;obtain⟨l1,l2,l3⟩:=h.lev p B rfl;exact⟨l1.symm,fun x hx=>l2 x (J0.1 hx),fun x hx=>J0.2 (l3 x hx)⟩
  | cons a A=>
   rw[A1K] at hr;obtain⟨rfl,rfl⟩:=List.cons.inj hr;exact h.lev a (A++p::B) rfl
 rcases A1C.1 hr with hr|hr
 .exact h.ful r (by simp[hr])
 rcases A1H.1 hr with rfl|hr
 .intro e;refine h.ful p (by simp) ?_;unfold B7 at e ⊢;rw[A3A] at e ⊢;exact e.symm
 exact h.ful r (by simp[hr])
/-! ### joining -/
structure Jn (es:List Pr) (pa he oi:Int->Int) (N v:Int) (D:List Int) (e b0 e0:Int):Prop where
 out:Outs es oi v (D++[e])
 new:e∉D
 lo:ID es pa he oi D b0
 le:ID es pa he oi [e] e0
 low:he (AD es b0)<=he (AD es e0)
 nest:∀h x,h∈D->Rt es pa he oi h x->he (AD es e0)<he (AD es x)->∃b,Ov es pa he oi e h b
variable{e b0 e0:Int}
theorem Jn.xe(hJ:Jn es pa he oi N v D e b0 e0){b:Int}:Xs es pa he oi [e] b↔Rt es pa he oi e b:=by
 constructor
 .rintro⟨h,hh,hr⟩;simp at hh;subst hh;exact hr
 exact fun h=>⟨e,by simp,h⟩
theorem Jn.high(hJ:Jn es pa he oi N v D e b0 e0)(hs:Nk es pa he oi N s (D++[e])){x y:Int}(hx:Rt es pa he oi e x)(hy:Rt es pa he oi e y)(h1:he (AD es b0)<he (AD es x))(h2:he (AD es b0)<he (AD es y)):s x=s y:=by
 obtain⟨h,hh,hr⟩:=hJ.lo.1;exact(hs.2.1 e h (by simp) (by simp[hh]) (fun c=>hJ.new (by rw[c];exact hh))).1 x y ⟨hx,b0,hr,h1⟩ ⟨hy,b0,hr,h2⟩
theorem Jn.other(hJ:Jn es pa he oi N v D e b0 e0)(hs:Nk es pa he oi N s (D++[e])){x:Int}(hx:Xs es pa he oi D x)(h1:he (AD es e0)<he (AD es x)):∃b,Rt es pa he oi e b/\he (AD es b0)<he (AD es b)/\s x≠s b:=by
 obtain⟨h,hh,hr⟩:=hx;obtain⟨b,hb,c,hc,hcb⟩:=hJ.nest h x hh hr h1;refine⟨b,hb,?_,?_⟩
 .have:=hJ.lo.2 c ⟨h,hh,hc⟩;omega
 exact(hs.2.1 h e (by simp[hh]) (by simp) (fun c=>hJ.new (by rw[<-c];exact hh))).2 x b ⟨hr,e0,(hJ.xe).1 hJ.le.1,h1⟩ ⟨hb,c,hc,hcb⟩
theorem Jn.part(hJ:Jn es pa he oi N v D e b0 e0)(hs:Nk es pa he oi N s (D++[e])):Nk es pa he oi N s D/\Nk es pa he oi N s [e]:=by
 have hxl:∀b,ID es pa he oi D b->ID es pa he oi (D++[e]) b:=fun b hb=>⟨Xs.app.2 (.inl hb.1),fun c hc=>by
  rcases Xs.app.1 hc with h|h
  .exact hb.2 c h
  have:=hJ.le.2 c h;have:=hb.2 b0 hJ.lo.1;have:=hJ.low;omega⟩;have part1:Nk es pa he oi N s D:=⟨fun h hh=>hs.1 h (by simp[hh]),fun h k hh hk=>hs.2.1 h k (by simp[hh]) (by simp[hk]),fun b b' hb hb'=>hs.2.2 b b' (hxl b hb) (hxl b' hb')⟩;refine⟨part1,fun h hh=>hs.1 h (by simp at hh;simp[hh]),fun h k hh hk hne=>?_,fun b b' hb hb'=>?_⟩
 .simp at hh hk;exact absurd (hh.trans hk.symm) hne
 -- the lowest of e
 have e1:he (AD es b)=he (AD es b'):=by have:=hb.2 b' hb'.1;have:=hb'.2 b hb.1;omega
 have e2:he (AD es b)=he (AD es e0):=by have:=hb.2 e0 hJ.le.1;have:=hJ.le.2 b hb.1;omega
 have rb:=(hJ.xe).1 hb.1;have rb':=(hJ.xe).1 hb'.1;by_cases c:he (AD es b0)<he (AD es b)
 .exact hJ.high hs rb rb' c (by omega)
 have hl:∀{b},Xs es pa he oi [e] b->he (AD es b)<=he (AD es b0)->ID es pa he oi (D++[e]) b:=fun{b} hx hle=>⟨Xs.app.2 (.inr hx),fun d hd=>by
  rcases Xs.app.1 hd with h|h
  .have:=hJ.lo.2 d h;omega
  have:=hJ.le.2 d h;have:=hJ.low;omega⟩;exact hs.2.2 b b' (hl hb.1 (by omega)) (hl hb'.1 (by omega))
theorem no_one(hJ:Jn es pa he oi N v D e b0 e0)(h2:Gx es pa he oi N [e] Q){p:List Int×List Int}(hp:p∈Q){x y:Int}(hx:x∈p.1)(hy:y∈p.2)(h:∀z,z∈B7 p->he (AD es b0)<he (AD es z)):¬Nk es pa he oi N s (D++[e]):=fun hs=>by
 have hr:=(h2.com s (hJ.part hs).2 p hp).2.2 x y hx hy;have m:∀z,z∈B7 p->Rt es pa he oi e z:=fun z hz=>(hJ.xe).1 ((h2.cov z).2 (Bx.2 ⟨p,hp,hz⟩));exact hr (hJ.high hs (m x (AJ.2 (.inl hx))) (m y (AJ.2 (.inr hy))) (h x (AJ.2 (.inl hx))) (h y (AJ.2 (.inr hy))))
theorem no_two(hJ:Jn es pa he oi N v D e b0 e0)(h1:Gx es pa he oi N D P){p:List Int×List Int}(hp:p∈P){x y:Int}(hx:x∈p.1)(hy:y∈p.2)(hx1:he (AD es e0)<he (AD es x))(hy1:he (AD es e0)<he (AD es y)):¬Nk es pa he oi N s (D++[e]):=fun hs=>by
 have hr:=(h1.com s (hJ.part hs).1 p hp).2.2 x y hx hy;have m:∀z,z∈B7 p->Xs es pa he oi D z:=fun z hz=>(h1.cov z).2 (Bx.2 ⟨p,hp,hz⟩);obtain⟨a,a1,a2,a3⟩:=hJ.other hs (m x (AJ.2 (.inl hx))) hx1;obtain⟨b,b1,b2,b3⟩:=hJ.other hs (m y (AJ.2 (.inr hy))) hy1;have:=hJ.high hs a1 b1 a2 b2;apply hr;cases c1:s x<;>cases c2:s y<;>cases c3:s a<;>cases c4:s b<;>simp[c1,c2,c3,c4] at a3 b3 this ⊢
def EP(p:List Int×List Int)(l:List Int):List Int×List Int:=if p.1=[] then(p.1,p.2++l) else(p.1++l,p.2)
theorem DB{p:List Int×List Int}{l:List Int}{x:Int}:x∈B7 (EP p l)↔x∈B7 p\/x∈l:=by
 unfold EP;split<;>simp only[AJ,A1C]
 .constructor
  .rintro(h|h|h)
   .exact .inl (.inl h)
   .exact .inl (.inr h)
   exact .inr h
  rintro((h|h)|h)
  .exact .inl h
  .exact .inr (.inl h)
  exact .inr (.inr h)
 constructor
 .rintro((h|h)|h)
  .exact .inl (.inl h)
  .exact .inr h
  exact .inl (.inr h)
 rintro((h|h)|h)
 .exact .inl (.inl h)
 .exact .inr h
 exact .inl (.inr h)
def Ky(P1 Q1:PL):PL:=if P1.flatMap (·.1)=[]/\Bm Q1++P1.flatMap (·.2)=[] then[] else[(P1.flatMap (·.1),Bm Q1++P1.flatMap (·.2))]
theorem Mx{P1 Q1:PL}{x:Int}:x∈Bm (Ky P1 Q1)↔x∈Bm P1\/x∈Bm Q1:=by
 have e:x∈Bm (Ky P1 Q1)↔x∈P1.flatMap (·.1)\/x∈Bm Q1++P1.flatMap (·.2):=by
  unfold Ky;split
  .rename_i h;rw[h.1,h.2];simp[Bm]
  simp only[Bm,A2K,List.flatMap_nil,A1O,AJ]
 rw[e,A1C,Bx (P:=P1),A1R,A1R];constructor
 .rintro(⟨p,hp,h⟩|h|⟨p,hp,h⟩)
  .exact .inl ⟨p,hp,AJ.2 (.inl h)⟩
  .exact .inr h
  exact .inl ⟨p,hp,AJ.2 (.inr h)⟩
 rintro(⟨p,hp,h⟩|h)
 .rcases AJ.1 h with h|h
  .exact .inl ⟨p,hp,h⟩
  exact .inr (.inr ⟨p,hp,h⟩)
 exact .inr (.inl h)
theorem ED{p:List Int×List Int}:(Bm (p::P)).Nodup↔(B7 p).Nodup/\(Bm P).Nodup/\∀x,x∈B7 p->x∉Bm P:=by
 have e1:Bm (p::P)=B7 p++Bm P:=by simp[Bm]
 rw[e1,A1I];constructor
 .rintro⟨a,b,c⟩;exact⟨a,b,fun x hx hy=>c x hx x hy rfl⟩
 rintro⟨a,b,c⟩;exact⟨a,b,fun x hx y hy e=>c x hx (by rw[e];exact hy)⟩
theorem MQ{P1 Q1:PL}(h1:(Bm P1).Nodup)(h2:(Bm Q1).Nodup)(h3:∀x,x∈Bm P1->x∉Bm Q1):(P1.flatMap (·.1)++(Bm Q1++P1.flatMap (·.2))).Nodup:=by
 have f1:∀{P1:PL},(Bm P1).Nodup->(P1.flatMap (·.1)++P1.flatMap (·.2)).Nodup:=by
  intro P1
  induction P1 with
  | nil=>intro _;simp
  | cons p P1 ih=>
   intro h;obtain⟨a,b,c⟩:=ED.1 h;have ih:=ih b;have m1:∀x,x∈P1.flatMap (·.1)->x∈Bm P1:=fun x hx=>by
    obtain⟨r,hr,hxr⟩:=A1R.1 hx;exact Bx.2 ⟨r,hr,AJ.2 (.inl hxr)⟩
   have m2:∀x,x∈P1.flatMap (·.2)->x∈Bm P1:=fun x hx=>by
    obtain⟨r,hr,hxr⟩:=A1R.1 hx;exact Bx.2 ⟨r,hr,AJ.2 (.inr hxr)⟩
   rw[A2K,A2K];unfold B7 at a;rw[A1I] at a ih;simp only[A1I,A1C];refine⟨⟨a.1,ih.1,fun x hx y hy e=>c x (AJ.2 (.inl hx)) (m1 x (by rw[e];exact hy))⟩,⟨a.2.1,ih.2.1,fun x hx y hy e=>c x (AJ.2 (.inr hx)) (m2 x (by rw[e];exact hy))⟩,fun x hx y hy e=>?_⟩;subst e;rcases hx with hx|hx<;>rcases hy with hy|hy
   .exact a.2.2 x hx x hy rfl
   .exact c x (AJ.2 (.inl hx)) (m2 x hy)
   .exact c x (AJ.2 (.inr hy)) (m1 x hx)
   exact ih.2.2 x hx x hy rfl
 have g:=f1 h1;have m1:∀x,x∈P1.flatMap (·.1)->x∈Bm P1:=fun x hx=>by
  obtain⟨r,hr,hxr⟩:=A1R.1 hx;exact Bx.2 ⟨r,hr,AJ.2 (.inl hxr)⟩
 have m2:∀x,x∈P1.flatMap (·.2)->x∈Bm P1:=fun x hx=>by
  obtain⟨r,hr,hxr⟩:=A1R.1 hx;exact Bx.2 ⟨r,hr,AJ.2 (.inr hxr)⟩
 rw[A1I] at g;simp only[A1I,A1C];refine⟨g.1,⟨h2,g.2.1,fun x hx y hy e=>h3 x (m2 x (by rw[e];exact hy)) hx⟩,fun x hx y hy e=>?_⟩;subst e;rcases hy with hy|hy
 .exact h3 x (m1 x hx) hy
 exact g.2.2 x hx x hy rfl
theorem VY(hF:CD es pa he oi N)(hJ:Jn es pa he oi N v D e b0 e0){p0:List Int×List Int}{P0 P1 Q0 Q1:PL}(h1:Gx es pa he oi N D ((p0::P0)++P1))(h2:Gx es pa he oi N [e] (Q0++Q1))
 (hq0:∀x,x∈Bm Q0->he (AD es x)=he (AD es b0))(hq1:∀x,x∈Bm Q1->he (AD es b0)<he (AD es x))(hone:∀p,p∈Q1->p.1=[])
 (hp0:∀x,x∈Bm (p0::P0)->he (AD es x)<=he (AD es e0))(hp1:∀p,p∈P1->(∃x,x∈p.1/\he (AD es e0)<he (AD es x))/\∀x,x∈p.2->he (AD es x)<=he (AD es e0)):
  Gx es pa he oi N (D++[e]) ((EP p0 (Bm Q0)::P0)++Ky P1 Q1):=by
 have lev:=h1.lev p0 (P0++P1) rfl;have hXD:∀b,Xs es pa he oi D b↔b∈B7 p0\/b∈Bm P0\/b∈Bm P1:=fun b=>by
  rw[h1.cov,By,A1C,Bx];constructor
  .rintro(⟨p,hp,hb⟩|hb)
   .rcases A1H.1 hp with rfl|hp
    .exact .inl hb
    exact .inr (.inl (Bx.2 ⟨p,hp,hb⟩))
   exact .inr (.inr hb)
  rintro(hb|hb|hb)
  .exact .inl ⟨p0,by simp,hb⟩
  .obtain⟨p,hp,hb⟩:=Bx.1 hb;exact .inl ⟨p,by simp[hp],hb⟩
  exact .inr hb
 have hXe:∀b,Xs es pa he oi [e] b↔b∈Bm Q0\/b∈Bm Q1:=fun b=>by rw[h2.cov,By,A1C]
 have hels:∀b,b∈Bm ((EP p0 (Bm Q0)::P0)++Ky P1 Q1)↔(b∈B7 p0\/b∈Bm Q0)\/b∈Bm P0\/b∈Bm P1\/b∈Bm Q1:=fun b=>by
  rw[By,A1C,Mx];have:b∈Bm (EP p0 (Bm Q0)::P0)↔b∈B7 (EP p0 (Bm Q0))\/b∈Bm P0:=by simp[Bm]
  rw[this,DB];constructor
  .rintro((h|h)|h|h)
   .exact .inl h
   .exact .inr (.inl h)
   .exact .inr (.inr (.inl h))
   exact .inr (.inr (.inr h))
  rintro(h|h|h|h)
  .exact .inl (.inl h)
  .exact .inl (.inr h)
  .exact .inr (.inl h)
  exact .inr (.inr h)
 have hde:∀b,Xs es pa he oi D b->¬Xs es pa he oi [e] b:=fun b hb hc=>by
  obtain⟨h,hh,hr⟩:=hb;have hre:=(hJ.xe).1 hc;have o1:=hJ.out.orn h (by simp[hh]);have o2:=hJ.out.orn e (by simp);have:h=e:=by
   have rb:=hF.rng hr.1.1.1;rcases hr.2.2 with f|⟨f1,f2⟩<;>rcases hre.2.2 with g|⟨g1,g2⟩
   .rw[<-f,<-g]
   .exfalso;have q:=(hF.tree g1).1;have a:=(g2.le hF rb.1.1 rb.1.2).2;rw[f,o1.2,<-o2.2] at a;rcases a with a|a
    .rw[a] at q;omega
    omega
   .exfalso;have q:=(hF.tree f1).1;have a:=(f2.le hF rb.1.1 rb.1.2).2;rw[g,o2.2,<-o1.2] at a;rcases a with a|a
    .rw[a] at q;omega
    omega
   have q1:=(hF.tree f1).1;have q2:=(hF.tree g1).1;have:=f2.same hF g2 rb.1.1 rb.1.2 (by rw[q1,q2,o1.2,o2.2]);rw[<-f1.2,this,g1.2]
  exact hJ.new (by rw[<-this];exact hh)
 have nd1:=h1.nod;rw[By,A1I,ED] at nd1;have nd2:=h2.nod;rw[By,A1I] at nd2;obtain⟨⟨n1,n2,n3⟩,n4,n5⟩:=nd1;obtain⟨n6,n7,n8⟩:=nd2;have lowb:∀b,Xs es pa he oi D b->he (AD es b0)<=he (AD es b):=hJ.lo.2;have hLo:∀x,ID es pa he oi (D++[e]) x↔(x∈B7 p0\/x∈Bm Q0):=fun x=>by
  constructor
  .rintro⟨hx,hm⟩;have e1:he (AD es x)<=he (AD es b0):=hm b0 (Xs.app.2 (.inl hJ.lo.1));rcases Xs.app.1 hx with hx|hx
   .exact .inl (lev.2.2 x ⟨hx,fun c hc=>by have:=lowb c hc;omega⟩)
   rcases(hXe x).1 hx with h|h
   .exact .inr h
   have:=hq1 x h;omega
  intro hx;have key:Xs es pa he oi (D++[e]) x/\he (AD es x)<=he (AD es b0):=by
   rcases hx with hx|hx
   .have:=lev.2.1 x hx;exact⟨Xs.app.2 (.inl this.1),this.2 b0 hJ.lo.1⟩
   exact⟨Xs.app.2 (.inr ((hXe x).2 (.inl hx))),by rw[hq0 x hx];exact A2g _⟩
  refine⟨key.1,fun c hc=>?_⟩;rcases Xs.app.1 hc with hc|hc
  .have:=lowb c hc;omega
  have:=hJ.le.2 c hc;have:=hJ.low;omega
 have same0:∀{s:Int->Bool},(∀b b',ID es pa he oi (D++[e]) b->ID es pa he oi (D++[e]) b'->s b=s b')->∀{x y:Int},(x∈B7 p0\/x∈Bm Q0)->(y∈B7 p0\/y∈Bm Q0)->s x=s y:=fun{s} h {x y:Int} hx hy=>h x y ((hLo x).2 hx) ((hLo y).2 hy)
 -- where the parts of the new pair lie
 have inL:∀x,x∈P1.flatMap (·.1)->x∈Bm P1:=fun x hx=>by
  obtain⟨r,hr,hxr⟩:=A1R.1 hx;exact Bx.2 ⟨r,hr,AJ.2 (.inl hxr)⟩
 have qin:∀x,x∈Bm Q1->Rt es pa he oi e x/\he (AD es b0)<he (AD es x):=fun x hx=>⟨(hJ.xe).1 ((hXe x).2 (.inr hx)),hq1 x hx⟩;refine⟨fun b=>?_,?_,fun s hs=>?_,fun τ hτ=>?_,?_,fun p P' hp=>?_,fun p hp=>?_⟩
 .rw[Xs.app,hXD,hXe,hels];constructor
  .rintro((h|h|h)|h|h)
   .exact .inl (.inl h)
   .exact .inr (.inl h)
   .exact .inr (.inr (.inl h))
   .exact .inl (.inr h)
   exact .inr (.inr (.inr h))
  rintro((h|h)|h|h|h)
  .exact .inl (.inl h)
  .exact .inr (.inl h)
  .exact .inl (.inr (.inl h))
  .exact .inl (.inr (.inr h))
  exact .inr (.inr h)
 .have dq:∀x,x∈Bm Q0\/x∈Bm Q1->x∉B7 p0/\x∉Bm P0/\x∉Bm P1:=fun x hx=>by
   have h:=(hXe x).2 hx;exact⟨fun c=>hde x ((hXD x).2 (.inl c)) h,fun c=>hde x ((hXD x).2 (.inr (.inl c))) h,fun c=>hde x ((hXD x).2 (.inr (.inr c))) h⟩
  rw[By,A1I,ED];refine⟨⟨?_,n2,fun x hx hy=>?_⟩,?_,fun x hx y hy exy=>?_⟩
  .have e1:(B7 (EP p0 (Bm Q0))).Perm (B7 p0++Bm Q0):=by
    unfold EP B7;split
    .simp
    rw[A1L,A1L];exact List.Perm.append_left _ A1v
   rw[e1.nodup_iff,A1I];exact⟨n1,n6,fun x hx y hy e=>(dq y (.inl hy)).1 (by rw[<-e];exact hx)⟩
  .rcases DB.1 hx with h|h
   .exact n3 x h hy
   exact(dq x (.inl h)).2.1 hy
  .have:=MQ n4 n7 fun x hx hy=>(dq x (.inr hy)).2.2 hx;unfold Ky;split
   .simp[Bm]
   simpa [Bm,B7] using this
  subst exy;rw[Mx] at hy;have hx':x∈B7 (EP p0 (Bm Q0))\/x∈Bm P0:=by simpa [Bm] using hx
  rcases hx' with h|h
  .rcases DB.1 h with h|h
   .rcases hy with hy|hy
    .exact n5 x (Bx.2 ⟨p0,by simp,h⟩) x hy rfl
    exact(dq x (.inr hy)).1 h
   rcases hy with hy|hy
   .exact(dq x (.inl h)).2.2 hy
   exact n8 x h x hy rfl
  rcases hy with hy|hy
  .obtain⟨r,hr,hxr⟩:=Bx.1 h;exact n5 x (Bx.2 ⟨r,by simp[hr],hxr⟩) x hy rfl
  exact(dq x (.inr hy)).2.1 h
 .obtain⟨s1,s2⟩:=hJ.part hs;have c1:=h1.com s s1;intro p hp;rcases A1C.1 hp with hp|hp
  .rcases A1H.1 hp with rfl|hp
   .have sm:∀x y,x∈B7 (EP p0 (Bm Q0))->y∈B7 (EP p0 (Bm Q0))->s x=s y:=fun x y hx hy=>same0 hs.2.2 (DB.1 hx) (DB.1 hy);refine⟨fun x y hx hy=>sm x y (AJ.2 (.inl hx)) (AJ.2 (.inl hy)),fun x y hx hy=>sm x y (AJ.2 (.inr hx)) (AJ.2 (.inr hy)),fun x y hx hy=>?_⟩;exfalso;unfold EP at hx hy;split at hx
    .rename_i hz;simp[hz] at hx
    rename_i hz;rw[if_neg hz] at hy;rcases lev.1 with f|f
    .exact hz f
    simp[f] at hy
   exact c1 p (by simp[hp])
  -- the new pair
  have hpe:p=(P1.flatMap (·.1),Bm Q1++P1.flatMap (·.2)):=by
   unfold Ky at hp;split at hp
   .simp at hp
   simpa using hp
  subst hpe
  -- every one on the left is unlike some high return of e
  have left:∀x,x∈P1.flatMap (·.1)->∃b,Rt es pa he oi e b/\he (AD es b0)<he (AD es b)/\s x≠s b:=fun x hx=>by
   obtain⟨r,hr,hxr⟩:=A1R.1 hx;obtain⟨⟨z,hz,hzh⟩,_⟩:=hp1 r hr;have hzX:Xs es pa he oi D z:=(hXD z).2 (.inr (.inr (Bx.2 ⟨r,hr,AJ.2 (.inl hz)⟩)));obtain⟨b,b1,b2,b3⟩:=hJ.other hs hzX hzh;have:=(c1 r (by simp[hr])).1 x z hxr hz;exact⟨b,b1,b2,by rw[this];exact b3⟩
  have right:∀y,y∈Bm Q1++P1.flatMap (·.2)->∀b,Rt es pa he oi e b->he (AD es b0)<he (AD es b)->s y=s b:=fun y hy b hb hbh=>by
   rcases A1C.1 hy with hy|hy
   .exact hJ.high hs (qin y hy).1 hb (qin y hy).2 hbh
   obtain⟨r,hr,hyr⟩:=A1R.1 hy;obtain⟨⟨z,hz,hzh⟩,_⟩:=hp1 r hr;obtain⟨b',b1,b2,b3⟩:=left z (A1R.2 ⟨r,hr,hz⟩);have a1:=(c1 r (by simp[hr])).2.2 z y hz hyr;have a2:=hJ.high hs b1 hb b2 hbh;cases d1:s z<;>cases d2:s y<;>cases d3:s b<;>cases d4:s b'<;>simp[d1,d2,d3,d4] at a1 a2 b3 ⊢
  refine⟨fun x y hx hy=>?_,fun x y hx hy=>?_,fun x y hx hy=>?_⟩
  .obtain⟨a,a1,a2,a3⟩:=left x hx;obtain⟨b,b1,b2,b3⟩:=left y hy;have:=hJ.high hs a1 b1 a2 b2;cases d1:s x<;>cases d2:s y<;>cases d3:s a<;>cases d4:s b<;>simp[d1,d2,d3,d4] at a3 b3 this ⊢
  .dsimp only at hx hy;by_cases hb:∃b,Rt es pa he oi e b/\he (AD es b0)<he (AD es b)
   .obtain⟨b,b1,b2⟩:=hb;rw[right x hx b b1 b2,right y hy b b1 b2]
   exfalso;rcases A1C.1 hx with hx|hx
   .exact hb ⟨x,qin x hx⟩
   obtain⟨r,hr,_⟩:=A1R.1 hx;obtain⟨⟨z,hz,_⟩,_⟩:=hp1 r hr;obtain⟨b,b1,b2,_⟩:=left z (A1R.2 ⟨r,hr,hz⟩);exact hb ⟨b,b1,b2⟩
  obtain⟨a,a1,a2,a3⟩:=left x hx;rw[right y hy a a1 a2];exact a3
 .-- sides are found
  have r0:=hτ _ (show EP p0 (Bm Q0)∈(EP p0 (Bm Q0)::P0)++Ky P1 Q1 by simp);have sm:∀x y,(x∈B7 p0\/x∈Bm Q0)->(y∈B7 p0\/y∈Bm Q0)->τ x=τ y:=fun x y hx hy=>by
   rcases lev.1 with f|f
   .have e1:EP p0 (Bm Q0)=(p0.1,p0.2++Bm Q0):=by unfold EP;rw[if_pos f]
    rw[e1] at r0;have m:∀z,(z∈B7 p0\/z∈Bm Q0)->z∈p0.2++Bm Q0:=fun z hz=>by
     rcases hz with hz|hz
     .rcases AJ.1 hz with h|h
      .rw[f] at h;simp at h
      simp[h]
     simp[hz]
    exact r0.2.1 x y (m x hx) (m y hy)
   have hne:p0.1≠[]:=fun c=>h1.ful p0 (by simp) (by unfold B7;rw[c,f];rfl);have e1:EP p0 (Bm Q0)=(p0.1++Bm Q0,p0.2):=by unfold EP;rw[if_neg hne]
   rw[e1] at r0;have m:∀z,(z∈B7 p0\/z∈Bm Q0)->z∈p0.1++Bm Q0:=fun z hz=>by
    rcases hz with hz|hz
    .rcases AJ.1 hz with h|h
     .simp[h]
     rw[f] at h;simp at h
    simp[hz]
   exact r0.1 x y (m x hx) (m y hy)
  have rn:(∀x y,x∈P1.flatMap (·.1)->y∈P1.flatMap (·.1)->τ x=τ y)/\(∀x y,x∈Bm Q1++P1.flatMap (·.2)->y∈Bm Q1++P1.flatMap (·.2)->τ x=τ y)/\∀x y,x∈P1.flatMap (·.1)->y∈Bm Q1++P1.flatMap (·.2)->τ x≠τ y:=by
   by_cases c:P1.flatMap (·.1)=[]/\Bm Q1++P1.flatMap (·.2)=[]
   .rw[c.1,c.2];simp
   exact hτ (P1.flatMap (·.1),Bm Q1++P1.flatMap (·.2)) (A2N _ (by unfold Ky;rw[if_neg c];simp))
  have hP:A0n τ ((p0::P0)++P1):=fun p hp=>by
   rcases A1C.1 hp with hp|hp
   .rcases A1H.1 hp with rfl|hp
    .refine⟨fun x y hx hy=>sm x y (.inl (AJ.2 (.inl hx))) (.inl (AJ.2 (.inl hy))),fun x y hx hy=>sm x y (.inl (AJ.2 (.inr hx))) (.inl (AJ.2 (.inr hy))),fun x y hx hy=>?_⟩;rcases lev.1 with f|f
     .rw[f] at hx;simp at hx
     rw[f] at hy;simp at hy
    exact hτ p (by simp[hp])
   have m1:∀x,x∈p.1->x∈P1.flatMap (·.1):=fun x hx=>A1R.2 ⟨p,hp,hx⟩;have m2:∀x,x∈p.2->x∈Bm Q1++P1.flatMap (·.2):=fun x hx=>A2N _ (A1R.2 ⟨p,hp,hx⟩);exact⟨fun x y hx hy=>rn.1 x y (m1 x hx) (m1 y hy),fun x y hx hy=>rn.2.1 x y (m2 x hx) (m2 y hy),fun x y hx hy=>rn.2.2 x y (m1 x hx) (m2 y hy)⟩
  have hQ:A0n τ (Q0++Q1):=fun p hp=>by
   rcases A1C.1 hp with hp|hp
   .have m:∀x,x∈B7 p->x∈Bm Q0:=fun x hx=>Bx.2 ⟨p,hp,hx⟩;refine⟨fun x y hx hy=>sm x y (.inr (m x (AJ.2 (.inl hx)))) (.inr (m y (AJ.2 (.inl hy)))),fun x y hx hy=>sm x y (.inr (m x (AJ.2 (.inr hx)))) (.inr (m y (AJ.2 (.inr hy)))),fun x y hx hy=>?_⟩
    -- a pair of the lowest has one side ZZ
    exfalso;cases Q0 with
    | nil=>simp at hp
    | cons q Q0=>
     obtain⟨k1,k2,k3⟩:=h2.lev q (Q0++Q1) rfl;have hxl:ID es pa he oi [e] x:=⟨(hXe x).2 (.inl (m x (AJ.2 (.inl hx)))),fun c hc=>by
      have h3:=hq0 x (m x (AJ.2 (.inl hx)));have h4:=hJ.le.2 c hc;have:=hJ.low;omega⟩;have hxq:=k3 x hxl;have:p=q:=by
      rcases A1H.1 hp with h|h
      .exact h
      exfalso;obtain⟨_,_,z3⟩:=ED.1 n6;exact z3 x hxq (Bx.2 ⟨p,h,AJ.2 (.inl hx)⟩)
     subst this;rcases k1 with f|f
     .rw[f] at hx;simp at hx
     rw[f] at hy;simp at hy
   have m:∀x,x∈p.2->x∈Bm Q1++P1.flatMap (·.2):=fun x hx=>A2w _ (Bx.2 ⟨p,hp,AJ.2 (.inr hx)⟩);have f:=hone p hp;exact⟨fun x y hx=>by rw[f] at hx;simp at hx,fun x y hx hy=>rn.2.1 x y (m x hx) (m y hy),fun x y hx=>by rw[f] at hx;simp at hx⟩
  obtain⟨s1,p1,e1⟩:=h1.snd τ hP;obtain⟨s2,p2,e2⟩:=h2.snd τ hQ;obtain⟨m1,m2,m3,m4⟩:=Rz hF hJ.out hJ.new p1 p2;have val:∀b,Xs es pa he oi (D++[e]) b->Kz es pa he oi e s1 s2 b=τ b:=fun b hb=>by
   rcases Xs.app.1 hb with h|h
   .rw[m3 b h,e1 b h]
   rw[m4 b h,e2 b h]
  -- between e and the others
  have hL:∀{h b},h∈D->Ov es pa he oi h e b->b∈P1.flatMap (·.1)/\Xs es pa he oi (D++[e]) b:=fun{h b} hh ho=>by
   obtain⟨hb,c,hc,hcb⟩:=ho;have hX:Xs es pa he oi D b:=⟨h,hh,hb⟩;have hi:he (AD es e0)<he (AD es b):=by have:=hJ.le.2 c ((hJ.xe).2 hc);omega
   refine⟨?_,Xs.app.2 (.inl hX)⟩;rcases(hXD b).1 hX with h3|h3|h3
   .have:=hp0 b (Bx.2 ⟨p0,by simp,h3⟩);omega
   .obtain⟨r,hr,hbr⟩:=Bx.1 h3;have:=hp0 b (Bx.2 ⟨r,by simp[hr],hbr⟩);omega
   obtain⟨r,hr,hbr⟩:=Bx.1 h3;rcases AJ.1 hbr with h4|h4
   .exact A1R.2 ⟨r,hr,h4⟩
   have:=(hp1 r hr).2 b h4;omega
  have hRr:∀{h b},h∈D->Ov es pa he oi e h b->b∈Bm Q1++P1.flatMap (·.2)/\Xs es pa he oi (D++[e]) b:=fun{h b} hh ho=>by
   obtain⟨hb,c,hc,hcb⟩:=ho;have hX:Xs es pa he oi [e] b:=(hJ.xe).2 hb;have hi:=lowb c ⟨h,hh,hc⟩;refine⟨A2w _ ?_,Xs.app.2 (.inr hX)⟩;rcases(hXe b).1 hX with h3|h3
   .have:=hq0 b h3;omega
   exact h3
  refine⟨_,⟨m1,fun h k hh hk hne=>?_,fun b b' hb hb'=>?_⟩,val⟩
  .rcases A1C.1 hh with i1|i1<;>rcases A1C.1 hk with i2|i2
   .exact m2 h k i1 i2 hne
   .simp at i2;subst i2;refine⟨fun b b' hb hb'=>?_,fun b b' hb hb'=>?_⟩
    .have a:=hL i1 hb;have a':=hL i1 hb';rw[val b a.2,val b' a'.2];exact rn.1 b b' a.1 a'.1
    have a:=hL i1 hb;have a':=hRr i1 hb';rw[val b a.2,val b' a'.2];exact rn.2.2 b b' a.1 a'.1
   .simp at i1;subst i1;refine⟨fun b b' hb hb'=>?_,fun b b' hb hb'=>?_⟩
    .have a:=hRr i2 hb;have a':=hRr i2 hb';rw[val b a.2,val b' a'.2];exact rn.2.1 b b' a.1 a'.1
    have a:=hRr i2 hb;have a':=hL i2 hb';rw[val b a.2,val b' a'.2];exact fun e=>rn.2.2 b' b a'.1 a.1 e.symm
   simp at i1 i2;exact absurd (i1.trans i2.symm) hne
  rw[val b hb.1,val b' hb'.1];exact sm b b' ((hLo b).1 hb) ((hLo b').1 hb')
 .-- the heights rise
  have ho:=h1.ord;rw[A1K,A2C,A2s] at ho;obtain⟨o1,o2,o3,o4⟩:=ho;rw[A1K,A2C,A2s];have newin:∀p,p∈Ky P1 Q1->∀y,y∈B7 p->y∈Bm P1\/y∈Bm Q1:=fun p hp y hy=>Mx.1 (Bx.2 ⟨p,hp,hy⟩);have up:∀x,(x∈B7 p0\/x∈Bm Q0)->∀y,Xs es pa he oi (D++[e]) y->he (AD es x)<=he (AD es y):=fun x hx y hy=>((hLo x).2 hx).2 y hy;refine⟨fun p hp x y hx hy=>up x (DB.1 hx) y ?_,o2,?_,fun a ha b hb x y hx hy=>?_⟩
  .rcases A1C.1 hp with hp|hp
   .exact Xs.app.2 (.inl ((hXD y).2 (.inr (.inl (Bx.2 ⟨p,hp,hy⟩)))))
   rcases newin p hp y hy with h|h
   .exact Xs.app.2 (.inl ((hXD y).2 (.inr (.inr h))))
   exact Xs.app.2 (.inr ((hXe y).2 (.inr h)))
  .unfold Ky;split<;>simp
  rcases newin b hb y hy with h|h
  .obtain⟨r,hr,hyr⟩:=Bx.1 h;exact o4 a ha r hr x y hx hyr
  have a1:=hp0 x (Bx.2 ⟨a,by simp[ha],hx⟩);have a2:=hJ.le.2 y ((hXe y).2 (.inr h));omega
 .rw[A1K] at hp;obtain⟨rfl,rfl⟩:=List.cons.inj hp;refine⟨?_,fun x hx=>(hLo x).2 (DB.1 hx),fun x hx=>DB.2 ((hLo x).1 hx)⟩;unfold EP;split
  .rename_i hz;exact .inl hz
  rename_i hz;exact .inr (lev.1.resolve_left hz)
 rcases A1C.1 hp with hp|hp
 .rcases A1H.1 hp with rfl|hp
  .intro e;have hf:=h1.ful p0 (by simp);obtain⟨x,hx⟩:=A2i _ hf;have:=DB.2 (.inl hx:x∈B7 p0\/x∈Bm Q0);rw[e] at this;simp at this
  exact h1.ful p (by simp[hp])
 unfold Ky at hp;split at hp
 .simp at hp
 rename_i hz;simp at hp;subst hp;intro e;unfold B7 at e;rw[A3A] at e;exact hz e
end
end
section
open Classical
section
variable(es:List Pr)(pa he oi lo:Int->Int)(N:Int)(out:Int->List Int)
def Sec(h:Int):Prop:=∃b,Rt es pa he oi h b/\lo (h / 2)<he (AD es b)
structure B9:Prop where
 l1:∀h,DS es oi h->(∃b,Rt es pa he oi h b)->∃b,Lw es pa he oi h b/\lo (h / 2)=he (AD es b)
 l2:∀h,DS es oi h->(¬∃b,Rt es pa he oi h b)->lo (h / 2)=he (Aj es h)
 mem:∀v,0<=v->v<N->∀h,h∈out v↔DS es oi h/\Aj es h=v
 nod:∀v,0<=v->v<N->(out v).Nodup
 srt:∀v,0<=v->v<N->(out v).Pairwise fun h k=>lo (h / 2)<lo (k / 2)\/(lo (h / 2)=lo (k / 2)/\(Sec es pa he oi lo h->Sec es pa he oi lo k))
end
section
variable{es:List Pr}{pa he oi lo:Int->Int}{N:Int}{out:Int->List Int}{D R:List Int}{P:PL}{s:Int->Bool}{v e:Int}
theorem B9.lt(hL:B9 es pa he oi lo N out){h:Int}(ho:DS es oi h):(∃b,Rt es pa he oi h b)↔lo (h / 2)<he (Aj es h):=by
 constructor
 .intro hb;obtain⟨b,h1,h2⟩:=hL.l1 h ho hb;have:=h1.1.2.1;omega
 intro hl;refine Classical.byContradiction fun hn=>?_;have:=hL.l2 h ho hn;omega
theorem B9.le(hL:B9 es pa he oi lo N out){h b:Int}(ho:DS es oi h)(hb:Rt es pa he oi h b):lo (h / 2)<=he (AD es b):=by
 obtain⟨c,h1,h2⟩:=hL.l1 h ho ⟨b,hb⟩;have:=h1.2 b hb;omega
theorem B9.back(hF:CD es pa he oi N)(hL:B9 es pa he oi lo N out){b:Int}(hb:DO es pa oi b):lo (b / 2)=he (AD es b):=by
 obtain⟨c,h1,h2⟩:=hL.l1 b hb.1 ⟨b,Rt.self hF hb⟩;rw[h2,Dh hb h1.1]
theorem B9.lo1(hF:CD es pa he oi N)(hL:B9 es pa he oi lo N out)(v0:0<=v)(v1:v<N)(ho:out v=D++R){b:Int}(hb:ID es pa he oi D b):OM es pa he oi v b:=by
 have hm:∀h,h∈D\/h∈R↔DS es oi h/\Aj es h=v:=fun h=>by rw[<-hL.mem v v0 v1 h,ho,A1C]
 obtain⟨⟨h,hh,hr⟩,hmin⟩:=hb;obtain⟨a1,a2⟩:=(hm h).1 (.inl hh);refine⟨⟨hr.1,by have:=hr.under hF;rw[a2] at this;exact this,by have:=hr.2.1;rw[a2] at this;exact this⟩,fun c hc=>?_⟩;obtain⟨m,m1,m2,m3⟩:=PA hF hc.1 hc.2.1 hc.2.2;rcases(hm m).2 ⟨m1,m2⟩ with q|q
 .exact hmin c ⟨m,q,m3⟩
 have hp:=hL.srt v v0 v1;rw[ho,A2s] at hp;have h3:=hp.2.2 h hh m q;have h4:=hL.le m1 m3;obtain⟨d,d1,d2⟩:=hL.l1 h a1 ⟨b,hr⟩;have h5:=hmin d ⟨h,hh,d1.1⟩;rcases h3 with h3|h3<;>omega
theorem B9.par(hF:CD es pa he oi N)(hL:B9 es pa he oi lo N out){h b:Int}(ht:GP es pa oi h)(hb:OM es pa he oi (AD es h) b):lo (h / 2)=he (AD es b):=by
 have q:=(hF.tree ht).1;by_cases c:he (AD es b)<he (Aj es h)
 .have hr:Rt es pa he oi h b:=⟨hb.1.1,c,.inr ⟨ht,hb.1.2.1⟩⟩;obtain⟨d,d1,d2⟩:=hL.l1 h ht.1 ⟨b,hr⟩;have h3:=d1.2 b hr;have h4:=hb.2 d ⟨d1.1.1,?_,?_⟩
  .omega
  .rcases d1.1.2.2 with f|f
   .exfalso;exact d1.1.1.2 (by rw[f];exact ht.2)
   exact f.2
  have:=d1.1.2.1;omega
 have hn:¬∃b,Rt es pa he oi h b:=by
  rintro⟨d,d1,d2,d3⟩;rcases d3 with f|f
  .exact d1.2 (by rw[f];exact ht.2)
  have:=hb.2 d ⟨d1,f.2,by omega⟩;omega
 rw[hL.l2 h ht.1 hn];have:=hb.1.2.2;omega
theorem B9.jn(hF:CD es pa he oi N)(hL:B9 es pa he oi lo N out)(v0:0<=v)(v1:v<N)(ho:out v=D++e::R)(hD:D≠[])(he':lo (e / 2)<he v):
  ∃b0 e0,Jn es pa he oi N v D e b0 e0/\lo (e / 2)=he (AD es e0):=by
 have hm:∀h,h∈D++e::R↔DS es oi h/\Aj es h=v:=fun h=>by rw[<-hL.mem v v0 v1 h,ho]
 have hn:=hL.nod v v0 v1;have hp:=hL.srt v v0 v1;rw[ho] at hn hp;have hnd:=hn;rw[A1I] at hn;rw[A2s] at hp;have ee:=(hm e).1 (by simp);obtain⟨e0,e1,e2⟩:=hL.l1 e ee.1 ((hL.lt ee.1).2 (by rw[ee.2];exact he'));obtain⟨h0,hh0⟩:=A2i _ hD;have hle:∀h,h∈D->lo (h / 2)<lo (e / 2)\/(lo (h / 2)=lo (e / 2)/\(Sec es pa he oi lo h->Sec es pa he oi lo e)):=fun h hh=>hp.2.2 h hh e (by simp);have hin:∀h,h∈D->DS es oi h/\Aj es h=v:=fun h hh=>(hm h).1 (by simp[hh]);have hret:∀h,h∈D->∃b,Rt es pa he oi h b:=fun h hh=>by
  obtain⟨a1,a2⟩:=hin h hh;refine(hL.lt a1).2 ?_;rw[a2];rcases hle h hh with q|q<;>omega
 obtain⟨x0,hx0⟩:=hret h0 hh0;obtain⟨b0,hb0,hmin⟩:=I8 (p:=fun b=>Xs es pa he oi D b) (f:=fun b=>he (AD es b)) (fun b hb=>by
  obtain⟨h,hh,hr⟩:=hb;have:=hF.rng hr.1.1.1;exact hF.pos _ this.2.1 this.2.2) ⟨x0,h0,hh0,hx0⟩;refine⟨b0,e0,⟨⟨fun h hh=>?_⟩,fun hh=>?_,⟨hb0,hmin⟩,⟨⟨e,by simp,e1.1⟩,fun c hc=>?_⟩,?_,fun h x hh hr hlt=>?_⟩,e2⟩
 .refine(hm h).1 ?_;rcases A1C.1 hh with q|q
  .simp[q]
  simp at q;subst q;simp
 .exact hn.2.2 e hh e (by simp) rfl
 .obtain⟨k,hk,hr⟩:=hc;simp at hk;subst hk;exact e1.2 c hr
 .obtain⟨a1,a2⟩:=hin h0 hh0;obtain⟨d,d1,d2⟩:=hL.l1 h0 a1 ⟨x0,hx0⟩;have:=hmin d ⟨h0,hh0,d1.1⟩;rcases hle h0 hh0 with q|q<;>omega
 obtain⟨a1,a2⟩:=hin h hh;obtain⟨d,d1,d2⟩:=hL.l1 h a1 ⟨x,hr⟩;rcases hle h hh with q|⟨q,q2⟩
 .exact⟨e0,e1.1,d,d1.1,by omega⟩
 obtain⟨b,b1,b2⟩:=q2 ⟨x,hr,by omega⟩;exact⟨b,b1,d,d1.1,by omega⟩
theorem lr_no(hF:CD es pa he oi N)(hL:B9 es pa he oi lo N out)(v0:0<=v)(v1:v<N)(ho:out v=D++R)(hn:∀s,¬Nk es pa he oi N s D):¬∃s,VM es pa he oi s:=by
 rintro⟨s,hs⟩;obtain⟨t,ht,hA⟩:=con_alv hF hs;have hm:∀h,h∈D->DS es oi h/\Aj es h=v:=fun h hh=>(hL.mem v v0 v1 h).1 (by rw[ho];simp[hh]);refine hn t ⟨fun h hh htr y y0 y1 hy=>⟨fun a k ha hk hne hay hky=>ht a k ha hk hne (by rw[hay,hky]),fun b b' hb hb'=>hA y b b' y0 y1 hb hb'⟩,fun h k hh hk hne=>?_,fun b b' hb hb'=>hA v b b' v0 v1 (hL.lo1 hF v0 v1 ho hb) (hL.lo1 hF v0 v1 ho hb')⟩;exact ht h k (hm h hh).1 (hm k hk).1 hne (by rw[(hm h hh).2,(hm k hk).2])
theorem UN(hF:CD es pa he oi N):∀(n:Nat) (y:Int),0<=y->y<N->he y<n->∃r,(0<=r/\r<N)/\pa r<0/\BJ es pa r y
 | 0,y,a,b,h=>absurd (hF.pos y a b) (by omega)
 | n+1,y,a,b,h=>by
  by_cases c:pa y<0
  .exact⟨y,⟨a,b⟩,c,.refl⟩
  obtain⟨_,_,h3,h4,h5⟩:=hF.par a b (by omega);obtain⟨r,r1,r2,r3⟩:=UN hF n (Aj es (pa y)) h4 h5 (by omega);exact⟨r,r1,r2,.step (by omega) r3⟩
theorem QY{r u:Int}(hr:pa r<0)(h:BJ es pa u r):u=r:=by
 cases h with
 | refl=>rfl
 | step a b=>omega
theorem QZ(hF:CD es pa he oi N){r r' y:Int}(y0:0<=y)(y1:y<N)(h1:pa r<0)(h2:pa r'<0)(a:BJ es pa r y)(b:BJ es pa r' y):r=r':=by
 have:=a.le hF y0 y1;have:=b.le hF y0 y1;by_cases c:he r<=he r'
 .exact QY h2 (a.row hF y0 y1 b c)
 exact(QY h1 (b.row hF y0 y1 a (by omega))).symm
theorem lr_yes(hF:CD es pa he oi N)(hL:B9 es pa he oi lo N out)(h:∀r,0<=r->r<N->pa r<0->∃P,Gx es pa he oi N (out r) P):∃s,VM es pa he oi s:=by
 have h1:∀r,∃s,0<=r->r<N->pa r<0->Nk es pa he oi N s (out r):=fun r=>by
  by_cases c:0<=r/\r<N/\pa r<0
  .obtain⟨P,hP⟩:=h r c.1 c.2.1 c.2.2;have hno:∀b,¬Xs es pa he oi (out r) b:=fun b ⟨k,hk,hr⟩=>by
    obtain⟨a1,a2⟩:=(hL.mem r c.1 c.2.1 k).1 hk;have hz:he r=0:=by
     rcases hF.up r c.1 c.2.1 with q|q
     .exact q.2
     have:=q.1.1;omega
    have:=hr.2.1;have g:=hF.rng hr.1.1.1;have:=hF.pos _ g.2.1 g.2.2;rw[a2] at *;omega
   have hnil:P=[]:=by
    cases P with
    | nil=>rfl
    | cons p P=>
     exfalso;obtain⟨x,hx⟩:=A2i _ (hP.ful p (by simp));exact hno x ((hP.cov x).2 (Bx.2 ⟨p,by simp,hx⟩))
   subst hnil;obtain⟨s,hs,_⟩:=hP.snd (fun _=>false) (fun p hp=>by simp at hp);exact⟨s,fun _ _ _=>hs⟩
  exact⟨fun _=>false,fun a b d=>absurd ⟨a,b,d⟩ c⟩
 obtain⟨S,hS⟩:=Classical.axiomOfChoice h1;have h2:∀y,∃r,0<=y->y<N->(0<=r/\r<N)/\pa r<0/\BJ es pa r y:=fun y=>by
  by_cases c:0<=y/\y<N
  .obtain⟨r,hr⟩:=UN hF (he y+1).toNat y c.1 c.2 (by have:=hF.pos y c.1 c.2;omega);exact⟨r,fun _ _=>hr⟩
  exact⟨0,fun a b=>absurd ⟨a,b⟩ c⟩
 obtain⟨T,hT⟩:=Classical.axiomOfChoice h2;refine⟨fun b=>S (T (Aj es b)) b,fun a k ha hk hne hv=>?_⟩;have ga:=hF.rng ha.1;obtain⟨r1,r2,r3⟩:=hT (Aj es a) ga.1.1 ga.1.2;have hR:=hS (T (Aj es a)) r1.1 r1.2 r2;generalize hr:T (Aj es a)=r at *;have eq:∀{h c b},Aj es h=Aj es a->Ov es pa he oi h c b->S (T (Aj es b)) b=S r b:=fun{h c b} e ho=>by
  have g:=hF.rng ho.1.1.1.1;obtain⟨t1,t2,t3⟩:=hT (Aj es b) g.1.1 g.1.2;have hu:=ho.1.under hF;rw[e] at hu;rw[QZ hF g.1.1 g.1.2 t2 r2 t3 (hu.trans r3)]
 have key:(∀b b',Ov es pa he oi a k b->Ov es pa he oi a k b'->S r b=S r b')/\∀b b',Ov es pa he oi a k b->Ov es pa he oi k a b'->S r b≠S r b':=by
  by_cases c:r=Aj es a
  .exact hR.2.1 a k ((hL.mem r r1.1 r1.2 a).2 ⟨ha,c.symm⟩) ((hL.mem r r1.1 r1.2 k).2 ⟨hk,by rw[<-hv,c]⟩) hne
  -- below a tree edge of the root
  obtain⟨l,hl⟩:=r3.dp;obtain⟨t,t1,t2,t3⟩:=hl.wlk hF ga.1.1 ga.1.2 c;obtain⟨q1,q2,q3⟩:=hl.mem hF ga.1.1 ga.1.2 t t3;exact(hR.1 t ((hL.mem r r1.1 r1.2 t).2 ⟨q1.1,t2⟩) q1 (Aj es a) ga.1.1 ga.1.2 q3).1 a k ha hk hne rfl hv.symm
 refine⟨fun b b' hb hb'=>?_,fun b b' hb hb'=>?_⟩
 .dsimp only;rw[eq rfl hb,eq rfl hb'];exact key.1 b b' hb hb'
 dsimp only;rw[eq rfl hb,eq hv.symm hb'];exact key.2 b b' hb hb'
end
end
end Go.Fl
