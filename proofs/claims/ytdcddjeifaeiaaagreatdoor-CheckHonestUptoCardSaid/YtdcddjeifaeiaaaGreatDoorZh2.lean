/- Part 2 of the proof: the library of the walk and the walks, in build order; no condition. -/
import Derived.Test.YtdcddjeifaeiaaaGreatDoorZh1
set_option linter.unusedVariables false
set_option linter.unusedSimpArgs false
set_option linter.unusedSectionVars false
set_option maxRecDepth 100000
namespace Go.Fl
open Go Go.Proofs
def Ae(l:List Int)(i:Int):Int:=(l[i.toNat]?).getD 0
structure St where
 pa:List Int
 he:List Int
 od:List Int
 oi:List Int
def St.ori(s:St)(h:Int):St:={ s with oi:=s.oi.set (h / 2).toNat h }
def St.enter(s:St)(v h d:Int):St:={ s with pa:=s.pa.set v.toNat h,he:=s.he.set v.toNat d,od:=s.od++[v] }
def Cs(l:List Int):Nat:=l.countP fun x=>decide (x<0)
inductive Qw (es:List Pr):Int->List Int->St->St->Prop
 | nil {v:Int} {s:St}:Qw es v [] s s
 | seen {v h:Int} {l:List Int} {s s':St} (ho:0<=Ae s.oi (h / 2)) (r:Qw es v l s s'):Qw es v (h::l) s s'
 | back {v h:Int} {l:List Int} {s s':St} (ho:Ae s.oi (h / 2)<0) (hw:0<=Ae s.he (AD es h)) (r:Qw es v l (s.ori h) s'):Qw es v (h::l) s s'
 | tree {v h:Int} {l:List Int} {s s1 s':St} (ho:Ae s.oi (h / 2)<0) (hw:Ae s.he (AD es h)<0)
   (r1:Qw es (AD es h) (Bs es (AD es h)) ((s.ori h).enter (AD es h) h (Ae s.he v+1)) s1) (r:Qw es v l s1 s'):Qw es v (h::l) s s'
inductive Stk (es:List Pr):List (Int×List Int)->St->St->Prop
 | nil {s:St}:Stk es [] s s
 | cons {v:Int} {l:List Int} {k:List (Int×List Int)} {s s1 s':St} (r1:Qw es v l s s1) (r:Stk es k s1 s'):Stk es ((v,l)::k) s s'
inductive Qu (es:List Pr) (N:Int):Int->St->St->Prop
 | done {v:Int} {s:St} (h:N<=v):Qu es N v s s
 | skip {v:Int} {s s':St} (h:v<N) (hh:0<=Ae s.he v) (r:Qu es N (v+1) s s'):Qu es N v s s'
 | root {v:Int} {s s1 s':St} (h:v<N) (hh:Ae s.he v<0) (r1:Qw es v (Bs es v) (s.enter v (-1) 0) s1) (r:Qu es N (v+1) s1 s'):Qu es N v s s'
structure Inv (N:Int) (m:Nat) (c:Nat) (s:St):Prop where
 pal:s.pa.length=N.toNat
 hel:s.he.length=N.toNat
 oil:s.oi.length=m
 lo:∀(i:Nat) x,s.he[i]? =some x-> -1<=x
 hi:∀(i:Nat) x,s.he[i]? =some x->x+Cs s.oi<=m
 few:s.od.length+Cs s.oi<=c
section
variable{N:Int}{es:List Pr}{m c:Nat}{s s' s1:St}{v h:Int}{l:List Int}
theorem EF(l:List Int)(i:Nat):Ae l (i:Int)=(l[i]?).getD 0:=rfl
theorem BM{l:List Int}{i:Int}(h:i.toNat<l.length):l[i.toNat]? =some (Ae l i):=by
 unfold Ae;rw[A1d h];rfl
theorem NS{l:List Int}{i:Nat}{x:Int}(hl:(l[i]?).getD 0<0)(hx:0<=x):Cs (l.set i x)+1=Cs l:=by
 have hi:i<l.length:=by
  by_cases hi:i<l.length
  .exact hi
  rw[A1u (by omega)] at hl;simp at hl
 rw[A1d hi] at hl;simp only[A2B] at hl;unfold Cs;rw[List.countP_set hi];have h1:decide (l[i]<0)=true:=by simpa using hl
 have h2:decide (x<0)=false:=by simp;omega
 have h3:0<l.countP fun x=>decide (x<0):=List.countP_pos_iff.2 ⟨l[i],List.getElem_mem hi,h1⟩;simp only[h1,h2];simp;omega
theorem Inv.ori(hI:Inv N m c s)(h0:0<=h)(ho:Ae s.oi (h / 2)<0):Inv N m c (s.ori h)/\Cs (s.ori h).oi+1=Cs s.oi:=by
 have hu:=NS (l:=s.oi) (i:=(h / 2).toNat) (x:=h) ho h0;refine⟨⟨hI.pal,hI.hel,by simp[St.ori,hI.oil],hI.lo,fun i x hx=>?_,?_⟩,hu⟩
 .have:=hI.hi i x hx;show x+(Cs (s.oi.set _ _):Int)<=m;omega
 have:=hI.few;show s.od.length+Cs (s.oi.set _ _)<=c;omega
theorem Inv.enter{d p:Int}(hI:Inv N m c s)(h0: -1<=d)(hd:d+Cs s.oi<=m)(hc:s.od.length+1+Cs s.oi<=c):Inv N m c (s.enter v p d):=by
 refine⟨by simp[St.enter,hI.pal],by simp[St.enter,hI.hel],hI.oil,fun i x hx=>?_,fun i x hx=>?_,?_⟩
 .by_cases hi:v.toNat=i
  .subst hi;have hl:v.toNat<s.he.length:=by have:=(A1e.1 hx).1;simpa [St.enter] using this
   simp only[St.enter,A2A hl] at hx;have:=Option.some.inj hx;omega
  simp only[St.enter,A2E hi] at hx;exact hI.lo i x hx
 .by_cases hi:v.toNat=i
  .subst hi;have hl:v.toNat<s.he.length:=by have:=(A1e.1 hx).1;simpa [St.enter] using this
   simp only[St.enter,A2A hl] at hx;have:=Option.some.inj hx;show x+(Cs s.oi:Int)<=m;omega
  simp only[St.enter,A2E hi] at hx;exact hI.hi i x hx
 simp[St.enter];omega
theorem Dg(hv:BX N es)(h0:0<=h)(h1:h<es.length*2):0<=AD es h/\AD es h<N:=by
 have ht:=FW h0 h1;obtain⟨x,hx,hf⟩:=Ia es ht.1 ht.2;have e1:AD es h=x:=by unfold AD;rw[if_pos h0];exact hf
 rw[e1];obtain⟨e,he,hx2⟩:=PR (es:=es) (h:=(tw h).toNat) (by omega);rw[hx] at hx2;have hx2:=Option.some.inj hx2;have ho:=hv.ok _ _ he;have:=ho.lo;have:=ho.lt;have:=ho.hi;split at hx2<;>omega
theorem Inv.at(hI:Inv N m c s)(h0:0<=v)(h1:v<N):s.he[v.toNat]? =some (Ae s.he v)/\ -1<=Ae s.he v/\Ae s.he v+Cs s.oi<=m:=by
 have hx:=BM (l:=s.he) (i:=v) (by rw[hI.hel];omega);exact⟨hx,hI.lo _ _ hx,hI.hi _ _ hx⟩
theorem WQ(hv:BX N es):∀(u n:Nat) (v:Int) (l:List Int) (s:St),l.length<=n->Cs s.oi<=u->Inv N es.length c s->(∀h,h∈l->0<=h/\h<es.length*2)->0<=v->v<N->
  ∃s',Qw es v l s s'/\Inv N es.length c s'/\Cs s'.oi<=Cs s.oi:=by
 intro u
 induction u using Nat.strongRecOn with
 | ind u ihu=>
  intro n
  induction n with
  | zero=>
   intro v l s hn hu hI hl h0 h1;obtain rfl:=A1s (Nat.le_zero.1 hn);exact⟨s,.nil,hI,A1F _⟩
  | succ n ih=>
   intro v l s hn hu hI hl h0 h1;cases l with
   | nil=>exact⟨s,.nil,hI,A1F _⟩
   | cons h l=>
    have hh:=hl h (A1m ..);have hl':∀h,h∈l->0<=h/\h<es.length*2:=fun x hx=>hl x (A1q _ hx);have hn':l.length<=n:=by simpa using hn
    by_cases ho:0<=Ae s.oi (h / 2)
    .obtain⟨s',r,hI',hu'⟩:=ih v l s hn' hu hI hl' h0 h1;exact⟨s',.seen ho r,hI',hu'⟩
    have ho:Ae s.oi (h / 2)<0:=by omega
    obtain⟨hI1,hu1⟩:=hI.ori hh.1 ho;have htv:=Dg hv hh.1 hh.2;by_cases hw:0<=Ae s.he (AD es h)
    .obtain⟨s',r,hI',hu'⟩:=ih v l (s.ori h) hn' (by omega) hI1 hl' h0 h1;exact⟨s',.back ho hw r,hI',by omega⟩
    have hw:Ae s.he (AD es h)<0:=by omega
    have hat:=hI.at h0 h1;have hI2:Inv N es.length c ((s.ori h).enter (AD es h) h (Ae s.he v+1)):=hI1.enter (by omega) (by omega) (by have:=hI.few;show s.od.length+1+Cs (s.ori h).oi<=c;omega);have hu2:Cs ((s.ori h).enter (AD es h) h (Ae s.he v+1)).oi=Cs (s.ori h).oi:=rfl;obtain⟨s1,r1,hI3,hu3⟩:=ihu (Cs (s.ori h).oi) (by omega) _ (AD es h) (Bs es (AD es h)) _ (A1F _) (by rw[hu2];exact A1F _) hI2 (fun x hx=>by have:=(Bb hv).1 hx;exact⟨this.1,this.2.1⟩) htv.1 htv.2;obtain⟨s',r,hI',hu'⟩:=ih v l s1 hn' (by omega) hI3 hl' h0 h1;exact⟨s',.tree ho hw r1 r,hI',by omega⟩
theorem Inv.more(hI:Inv N m c s)(k:Nat):Inv N m (c+k) s:=⟨hI.pal,hI.hel,hI.oil,hI.lo,hI.hi,by have:=hI.few;omega⟩
theorem V7(hv:BX N es):∀(n:Nat) (v:Int) (s:St) (c:Nat),(N-v).toNat=n->Inv N es.length c s->0<=v->∃s',Qu es N v s s'/\Inv N es.length (c+n) s':=by
 intro n
 induction n with
 | zero=>intro v s c hn hI h0;exact⟨s,.done (by omega),hI.more 0⟩
 | succ n ih=>
  intro v s c hn hI h0;by_cases hh:0<=Ae s.he v
  .obtain⟨s',r,hI'⟩:=ih (v+1) s c (by omega) hI (by omega);exact⟨s',.skip (by omega) hh r,by have:=hI'.more 1;rwa [A3h] at this⟩
  have hu:Cs s.oi<=s.oi.length:=A2n;have hI1:Inv N es.length (c+1) (s.enter v (-1) 0):=(hI.more 1).enter (by omega) (by rw[hI.oil] at hu;omega) (by have:=hI.few;omega);obtain⟨s1,r1,hI2,hu2⟩:=WQ (c:=c+1) hv (Cs s.oi) _ v (Bs es v) (s.enter v (-1) 0) (A1F _) (A1F _) hI1 (fun x hx=>by have:=(Bb hv).1 hx;exact⟨this.1,this.2.1⟩) h0 (by omega);obtain⟨s',r,hI'⟩:=ih (v+1) s1 (c+1) (by omega) hI2 (by omega);exact⟨s',.root (by omega) (by omega) r1 r,by rwa [A3h,Nat.add_comm 1 n] at hI'⟩
def start(N:Int)(m:Nat):St:=⟨List.replicate N.toNat (-1),List.replicate N.toNat (-1),[],List.replicate m (-1)⟩
theorem Or:Inv N m m (start N m):=by
 have hu:Cs (List.replicate m (-1))=m:=by unfold Cs;rw[List.countP_replicate];rfl
 refine⟨by simp[start],by simp[start],by simp[start],fun i x hx=>?_,fun i x hx=>?_,?_⟩
 .simp only[start,A2h] at hx;split at hx<;>cases hx;omega
 .simp only[start,A2h] at hx;split at hx
  .have hx:=Option.some.inj hx;show x+(Cs (List.replicate m (-1)):Int)<=m;omega
  cases hx
 show 0+Cs (List.replicate m (-1))<=m;omega
theorem SZ(hv:BX N es):∃s,Qu es N 0 (start N es.length) s/\Inv N es.length (es.length+N.toNat) s:=by
 obtain⟨s,r,hI⟩:=V7 hv N.toNat 0 (start N es.length) es.length (by omega) Or (by omega);exact⟨s,r,hI⟩
end
/-! ### the walk, computed -/
abbrev RL:=List (Value×List Int)
def AT(t:Nat)(rs:RL):List Chunk:=rs.map fun p=>Bf p.1 t 1 (AA p.2)
def Ba(rs:RL):List Value:=rs.map (·.1)
section
variable{P:Program}{w0 w:World}{K:List Nat}{n:Nat}{ds:List Deferred}{E:Env}{L F:List Chunk}{o:Oper}{x y z:Operand}{v u:Value}{t:Nat}
@[simp] theorem rowsV_length (rs:RL):(Ba rs).length=rs.length:=by simp[Ba]
theorem Ko(rs:RL)(i:Nat)(p:Value×List Int):(Ba rs).toArray.setIfInBounds i p.1=(Ba (rs.set i p)).toArray:=by
 apply Array.ext';simp[Ba,A3t]
theorem FM{rs:RL}{i:Nat}{p:Value×List Int}(h:rs[i]? =some p):(Ba rs).toArray[i]? =some p.1:=by simp[Ba,h]
theorem Oz{α β:Type}(f:α->β):∀(l:List α) (i:Nat),(l.map f).eraseIdx i=(l.eraseIdx i).map f
 | [],i=>by simp
 | x::r,0=>by simp
 | x::r,i+1=>by simp[Oz f r i]
theorem Iq{rs:RL}{i:Nat}{p:Value×List Int}(h:rs[i]? =some p)(F:List Chunk):(F++AT t rs).Perm (Bf p.1 t 1 (AA p.2)::(F++AT t (rs.eraseIdx i))):=by
 have h1:(AT t rs)[i]? =some (Bf p.1 t 1 (AA p.2)):=by simp[AT,h]
 have h2:=Bj h1;have h3:(AT t rs).eraseIdx i=AT t (rs.eraseIdx i):=Oz _ _ _;rw[h3] at h2;exact((List.Perm.refl F).append h2).trans A2V
theorem Ma{rs:RL}{i:Nat}(p:Value×List Int)(h:i<rs.length)(F:List Chunk):(Bf p.1 t 1 (AA p.2)::(F++AT t (rs.eraseIdx i))).Perm (F++AT t (rs.set i p)):=by
 have h1:(rs.set i p)[i]? =some p:=by rw[A2A h]
 have h2:=Iq (t:=t) h1 F;have h3:(rs.set i p).eraseIdx i=rs.eraseIdx i:=by rw[List.eraseIdx_set_eq]
 rw[h3] at h2;exact h2.symm
theorem Mp(k:Nat)(hw:AR w0 K w F):AR w0 K w (F++AT t (List.replicate k (.slice none 0 0,[]))):=by
 induction k generalizing F with
 | zero=>simpa [AT] using hw
 | succ k ih=>
  have h1:=Ck (t:=t) (m:=1) (ih hw);refine h1.perm ?_;simp only[List.replicate_succ,AT,A1M,AA,A3I];exact A2V
theorem HT{rs:RL}{i:Nat}{p:Value×List Int}(hw:AR w0 K w (F++AT t rs))(h:rs[i]? =some p)(hf:p.2.length<=17592186044416):FD w p.1 p.2:=
 C7 (hw.perm (Iq h F).symm) 0 rfl hf
theorem TY{rs:RL}{i j l c:Nat}{p:Value×List Int}{h:Int}{ad:Addr}(hp:rs[i]? =some p)(hv:p.1= .slice (some ad) l c)(hj:p.2[j]? =some h)(hf:p.2.length<=17592186044416):
  Ll w0 K (F++AT t rs) (ad.add j) (.int .i64 h):=by
 intro w hw;obtain⟨A,cap,he,hr,_⟩:=HT hw hp hf;rw[hv] at he;cases he;obtain⟨ad',ha,hc⟩:=hr.int hj;cases ha;exact hc
/-! ### old memory that stays, though some is written -/
def Off(va:Value)(es:List Pr)(K:List Nat):Prop:=es≠[]->∀ad l c,va= .slice (some ad) l c->ad.block∉K
theorem DX.keepK{va:Value}{es:List Pr}(h:DX w0 va es)(ho:Off va es K)(hw:AR w0 K w L):DX w va es:=by
 obtain⟨A,cap,rfl,hr,h1,h2,h3⟩:=h;refine⟨A,cap,rfl,?_,h1,h2,h3⟩;by_cases he:es=[]
 .subst he;intro j u hj;simp[Cj] at hj
 exact hr.keep (fun ad hA=>ho he ad _ _ (by rw[hA])) hw
theorem Off.step{va:Value}{es:List Pr}(h:DX w0 va es)(ho:Off va es K)(hw:AR w0 K w L):Off va es (AY L):=by
 intro he ad l c hva hin;obtain⟨A,cap,rfl,hr,h1,h2,h3⟩:=h;cases hva;obtain⟨e,he0⟩:∃e,es[0]? =some e:=⟨_,A1d (A2k.2 he)⟩;obtain⟨ad',ha,hc,_⟩:=hr.pair he0;cases ha;have hlt:=World.block_lt_of_cell? w0 _ hc;have hb:(ad.add (0*2)).block=ad.block:=by unfold Addr.add;split<;>rfl
 rw[hb] at hlt;rcases hw.fresh _ hin with h5|h5
 .exact ho he ad _ _ rfl h5
 omega
end
/-! ### the document's forms of the walk's state -/
def refH(he:List Int):List Int:=he.map fun x=>if x<0 then 0 else x
def seenB(he:List Int):List Value:=he.map fun x=>.bool (decide (0<=x))
@[simp] theorem refH_length (he:List Int):(refH he).length=he.length:=by simp[refH]
@[simp] theorem seenB_length (he:List Int):(seenB he).length=he.length:=by simp[seenB]
/-! ### what the walk keeps -/
def DD(N:Int)(es:List Pr)(ls:List (List Int)):Prop:=
 BX N es/\(ls.length:Int)=N/\∀(v:Nat) l,ls[v]? =some l->(∀u,u∈l->∃h,CZ es v u h)/\l.Nodup/\(l.length:Int)=Fr es v
def Nc(es:List Pr)(ls rs:List (List Int)):Prop:=
 rs.length=ls.length/\∀(v:Nat) l r,ls[v]? =some l->rs[v]? =some r->r.length=l.length/\∀(j:Nat) u h,l[j]? =some u->r[j]? =some h->CZ es v u h
section
variable{w0 w:World}{L0 L:List Chunk}
theorem J9{ad:Addr}{v:Value}(hO:AR w0 [] w L0)(hc:w0.cell? ad=some v):w.cell? ad=some v/\ad.block∉AY L0:=by
 have hlt:=World.block_lt_of_cell? w0 _ hc;refine⟨by rw[hO.oldCell hlt (by simp)];exact hc,fun hm=>?_⟩;rcases hO.fresh _ hm with h|h
 .simp at h
 omega
theorem JS{ad:Addr}{v:Value}(hO:AR w0 [] w L0)(hc:w0.cell? ad=some v):Ll w (AY L0) L ad v:=Vf (J9 hO hc).1 (J9 hO hc).2
theorem Wz{ad:Addr}{i:Nat}{x y:Value}(hO:AR w0 [] w L0)(h1:w0.cell? (ad.add i)=some x)(h2:w0.cell? (ad.add (i+1))=some y):Jl w (AY L0) L (ad.add i) [x,y]:=by
 have hb:(ad.add i).block=ad.block:=by unfold Addr.add;split<;>rfl
 exact Fm (J9 hO h1).1 (J9 hO h2).1 (by rw[<-hb];exact(J9 hO h1).2)
theorem Mh{va:Value}{es:List Pr}{w':World}(h:DX w0 va es)(hO:AR w0 [] w L0)(hw:AR w (AY L0) w' L):DX w' va es:=
 (h.keep0 hO).keepK (Off.step h (by intro _ _ _ _ _ hm;simp at hm) hO) hw
end
def VK(es:List Pr)(i:Nat)(f:Pr->Option Value):Prop:=∀p v,f p=some v↔∃h,v= .int .i64 h/\CZ es p.1 p.2 h/\h<2*(i:Int)
theorem TZ(es:List Pr):VK es 0 (fun _=>none):=by
 intro p v;constructor
 .intro h;cases h
 rintro⟨h,_,h1,h2⟩;have:=h1.1;omega
theorem T0{N:Int}{es:List Pr}(hV:BX N es){i:Nat}{e:Pr}(he:es[i]? =some e){f:Pr->Option Value}(hf:VK es i f):
  VK es (i+1) (fun p=>if p=(e.2,e.1) then some (.int .i64 (2*(i:Int)+1)) else if p=(e.1,e.2) then some (.int .i64 (2*(i:Int))) else f p):=by
 have ho:=hV.ok i e he;have hne:e.1≠e.2:=by have:=ho.lt;omega
 have h1:=Du he (u:=e.1) (v:=e.2) rfl rfl;have h2:=Fj he (u:=e.2) (v:=e.1) rfl rfl;intro p v;dsimp only;split
 .rename_i hp;subst hp;constructor
  .intro h;cases h;exact⟨_,rfl,h2,by omega⟩
  rintro⟨h,rfl,h3,h4⟩;rw[h3.uniq hV h2]
 rename_i hp1;split
 .rename_i hp;subst hp;constructor
  .intro h;cases h;exact⟨_,rfl,h1,by omega⟩
  rintro⟨h,rfl,h3,h4⟩;rw[h3.uniq hV h1]
 rename_i hp2;rw[hf p v];constructor
 .rintro⟨h,rfl,h3,h4⟩;exact⟨h,rfl,h3,by omega⟩
 rintro⟨h,rfl,h3,h4⟩;refine⟨h,rfl,h3,?_⟩;obtain⟨h5,h6,h7,h8⟩:=h3;rcases(show h<2*(i:Int)\/h=2*(i:Int)\/h=2*(i:Int)+1 by omega) with h9|h9|h9
 .exact h9
 .subst h9;obtain⟨_,_,e1,e2⟩:=h1;exact absurd (Prod.ext (h7.symm.trans e1) (h8.symm.trans e2)) hp2
 subst h9;obtain⟨_,_,e1,e2⟩:=h2;exact absurd (Prod.ext (h7.symm.trans e1) (h8.symm.trans e2)) hp1
section
variable{P:Program}{ops:Array Oper}{w0 w:World}{K:List Nat}{n:Nat}{ds:List Deferred}{E:Env}{L F:List Chunk}{o:Oper}{x y z:Operand}{v u:Value}
theorem PD{t e m b:Nat}{zv:Value}{len cap:Int}{l k:Nat}{cs:Array Value}(ho:o.op= .makeSlice t x y)(hx:ev n E x=some (.int .i64 len))(hy:ev n E y=some (.int .i64 cap))
 (ht:P.underlying t=some (.slice e))(hm:BD P e=some m)(hb:Ee P e=some b)(hz:B2 P e=some zv)(hl:len=(l:Nat))(hk:cap=(k:Nat))(hlk:l<=k)(hbytes:b*k<=281474976710656)(h63:k<=9223372036854775807)
 (hc:madeCells zv.cells (k*m)=cs):New P n ds E o (.sl l k) e cs:=by
 intro a w ha;subst hl hk hc;obtain⟨i,hi,h1,h2,h3⟩:=LJ hm hb hz;subst h1 h2;have:=run_make (P:=P) w t e i zv ht hi h3 .i64 .i64 l k (by omega) (by omega) (by rw[<-Int.natCast_mul];omega) (by omega);simp only[A1g] at this;simp[execOp,ho,ha.ev hx,ha.ev hy,this,Uv.val]
theorem Cv{i j t l c:Nat}{ad:Addr}{xs:List Int}{q:Int}(hi:L[i]? =some (Bf (.slice (some ad) l c) t 1 (AA xs)))(hj:xs[j]? =some q)(hf:xs.length<=17592186044416):Ll w0 K L (ad.add j) (.int .i64 q):=by
 intro w hw;obtain⟨A,cap,e,hr,_⟩:=C7 hw i hi hf;cases e;obtain⟨ad',e,hc⟩:=hr.int hj;cases e;exact hc
theorem DC.slcs{Q:Exit->Act->World->Prop}{cd:Code}{i t:Nat}{xs:List Int}(hi:L[i]? =some (Bf v t 1 (AA xs)))(hf:xs.length<=17592186044416)
 (h:∀A c,v= .slice A xs.length c->(xs≠[]->∃ad,A=some ad)->DC P w0 K n ds Q cd E L):DC P w0 K n ds Q cd E L:=by
 intro a w ha hw;obtain⟨A,cap,e,hr,_⟩:=C7 hw i hi hf;refine h A cap e (fun hne=>?_) a w ha hw;obtain⟨q,hq⟩:∃q,xs[0]? =some q:=⟨_,A1d (A2k.2 hne)⟩;obtain⟨ad,e,_⟩:=hr.int hq;exact⟨ad,e⟩
theorem RZ{i j t l c:Nat}{ad:Addr}{vs:List Value}{q:Value}(hi:L[i]? =some (Bf (.slice (some ad) l c) t 1 vs))(hj:vs[j]? =some q):Ll w0 K L (ad.add j) q:=by
 intro w hw;obtain⟨A,len,cap,e,_,hr,_⟩:=Ft (hw.perm (Bj hi).symm);cases e;obtain⟨ad',e,hc⟩:=hr j q hj;cases e;exact hc
theorem LR{Q:Exit->Act->World->Prop}{cd:Code}{i t:Nat}{vs:List Value}(hi:L[i]? =some (Bf v t 1 vs))
 (h:∀A c,v= .slice A vs.length c->(vs≠[]->∃ad,A=some ad)->DC P w0 K n ds Q cd E L):DC P w0 K n ds Q cd E L:=by
 intro a w ha hw;obtain⟨A,len,cap,e,hlen,hr,_⟩:=Ft (hw.perm (Bj hi).symm);refine h A cap (by rw[hlen,A3d];exact e) (fun hne=>?_) a w ha hw;obtain⟨q,hq⟩:∃q,vs[0]? =some q:=⟨_,A1d (A2k.2 hne)⟩;obtain⟨ad,e,_⟩:=hr 0 q hq;exact⟨ad,e⟩
theorem lsv_own{g t t' N:Nat}{rs:RL}(hw:AR w0 K w (AC g t' (Ba rs).toArray::AT t rs))(hN:rs.length=N)(hb:N<=17592186044416)(hf:∀p,p∈rs->p.2.length<=17592186044416):IM w (.slice (some ⟨g,0,none⟩) N N) (rs.map Prod.snd):=by
 subst hN;refine⟨_,_,by simp;exact⟨rfl,rfl⟩,fun i l hi=>?_,by simp,by omega,by simpa using hb⟩;rw[A1U,A2o] at hi;obtain⟨p,hp,rfl⟩:=hi;have h1:=hw.holds _ (A1m ..);refine⟨_,p.1,rfl,?_,HT (F:=[AC g t' (Ba rs).toArray]) hw hp (hf p (A1h hp))⟩;rw[AX,cell_of_row w g i _ t' (0,0) h1];exact FM hp
end
def CO(N:Int)(es:List Pr)(rs:List (List Int)):Prop:=
 BX N es/\(rs.length:Int)=N/\∀(v:Nat) l,rs[v]? =some l->(∀h,h∈l->0<=h/\h<es.length*2/\Aj es h=v)/\l.Nodup/\(l.length:Int)=Fr es v
theorem JC{N:Int}{es:List Pr}{ls rs:List (List Int)}(ho:DD N es ls)(hr:Nc es ls rs):CO N es rs:=by
 obtain⟨hV,hN,ho⟩:=ho;obtain⟨hl,hr⟩:=hr;refine⟨hV,by rw[hl];exact hN,fun v r hv=>?_⟩;obtain⟨l,hlv⟩:∃l,ls[v]? =some l:=⟨_,A1d (by have:=(A1e.1 hv).1;omega)⟩;obtain⟨h1,h2,h3⟩:=ho v l hlv;obtain⟨h4,h5⟩:=hr v l r hlv hv;have h6:∀(j:Nat) h,r[j]? =some h->∃u,l[j]? =some u/\CZ es v u h:=fun j h hj=>by
  obtain⟨u,hu⟩:∃u,l[j]? =some u:=⟨_,A1d (by have:=(A1e.1 hj).1;omega)⟩;exact⟨u,hu,h5 j u h hu hj⟩
 refine⟨fun h hh=>?_,?_,by rw[h4];exact h3⟩
 .obtain⟨j,hj⟩:=A1j.1 hh;obtain⟨u,_,h7⟩:=h6 j h hj;exact⟨h7.lo,h7.hi,h7.fr⟩
 rw[List.nodup_iff_pairwise_ne,A2t];intro i j hi hj hij e;have hi':r[i]? =some r[i]:=A1d hi;have hj':r[j]? =some r[j]:=A1d hj;obtain⟨u,hu,h7⟩:=h6 i _ hi';obtain⟨u',hu',h8⟩:=h6 j _ hj';have:u=u':=by rw[<-h7.to,<-h8.to,e]
 subst this;have:=(A3x (by omega) h2).1 (hu.trans hu'.symm);omega
section
variable{P:Program}{ops:Array Oper}{w0 w:World}{K:List Nat}{n:Nat}{ds:List Deferred}{E:Env}{L F:List Chunk}{o:Oper}{x y z:Operand}{v u:Value}
theorem s_slcI{t tb i j l c:Nat}{ad:Addr}{xs:List Int}{q:Int}(hi:L[i]? =some (Bf (.slice (some ad) l c) tb 1 (AA xs)))(ho:o.op= .store t x y)(hx:ev n E x=some (.pointer (some (ad.add j))))
 (hy:ev n E y=some (.int .i64 q))(hs:BD P t=some 1)(hj:j<xs.length):Sto P w0 K n ds E L o (L.set i (Bf (.slice (some ad) l c) tb 1 (AA (xs.set j q)))):=by
 intro a w ha hw;have hw1:=hw.perm (Bj hi).symm;rcases DA hw1 with⟨e,_,_⟩|⟨g,len,cap,sp,e,h1,h2,h3,h4,hO⟩
 .cases e
 cases e;simp at h1;subst h1;rw[AX] at hx;have hb:=hO.holds _ (A1m ..);have hlt:j<(AA xs++sp).toArray.size:=by simp;omega
 have hcell:w.cell? ⟨g,j,none⟩=some ((AA xs++sp).toArray[j]):=by rw[cell_of_row w g j _ tb (0,0) hb];exact Array.getElem?_eq_getElem hlt
 have hfr:=frozen_of_row w g j _ tb hb;have hst:(store (Addr.add ⟨g,j,none⟩ 0) (Value.int .i64 q)).run P w= .ok () (w.setCell ⟨g,j,none⟩ (.int .i64 q)):=by
  rw[Cm,run_store P w _ _ _ rfl];simp only[A2x,hcell,hfr];simp
 refine⟨w.setCell ⟨g,j,none⟩ (.int .i64 q),?_,?_⟩
 .simp[execOp,ho,ha.ev hx,ha.ev hy,Instr.storeAt,Instr.sureAddr,storeVar,Value.cells,Cp hs,storeCells,hst]
 have h5:=hO.set j (.int .i64 q);rw[Pa hj] at h5;refine(Ca (m:=1) (vs:=AA (xs.set j q)) (by simp) (by decide) h2 h3 (by simp at h4 ⊢;omega) ?_ h5).perm (HZ hi);simp
theorem CN.slcs{Q:Exit->Act->World->Prop}{cd:List Oper}{i t:Nat}{xs:List Int}(hi:L[i]? =some (Bf v t 1 (AA xs)))(hf:xs.length<=17592186044416)
 (h:∀A c,v= .slice A xs.length c->(xs≠[]->∃ad,A=some ad)->CN P ops w0 K n ds Q cd E L):CN P ops w0 K n ds Q cd E L:=by
 intro a w ha hw;obtain⟨A,cap,e,hr,_⟩:=C7 hw i hi hf;refine h A cap e (fun hne=>?_) a w ha hw;obtain⟨q,hq⟩:∃q,xs[0]? =some q:=⟨_,A1d (A2k.2 hne)⟩;obtain⟨ad,e,_⟩:=hr.int hq;exact⟨ad,e⟩
theorem Dl.slcs{Qb:Act->World->Prop}{i t:Nat}{xs:List Int}(hi:L[i]? =some (Bf v t 1 (AA xs)))(hf:xs.length<=17592186044416)
 (h:∀A c,v= .slice A xs.length c->(xs≠[]->∃ad,A=some ad)->Dl w0 K n ds Qb E L):Dl w0 K n ds Qb E L:=by
 intro a w ha hw;obtain⟨A,cap,e,hr,_⟩:=C7 hw i hi hf;refine h A cap e (fun hne=>?_) a w ha hw;obtain⟨q,hq⟩:∃q,xs[0]? =some q:=⟨_,A1d (A2k.2 hne)⟩;obtain⟨ad,e,_⟩:=hr.int hq;exact⟨ad,e⟩
end
structure CoI where
 i:Nat
 v:Value
theorem Ph{N:Int}{es:List Pr}{va:Value}{w:World}(hg:DX w va es):
  Calls A1c 6 #[.agg #[Iv N,va]] w (Ret w [] fun r L=>∃A l c,r= .agg #[Iv N,.slice A l c]/\L=[Bf (.slice A l c) 39 2 (Cj es)]):=by
 obtain⟨A,cap,rfl,hr,hlc,hcm,hl⟩:=hg;refine cO Tryz.func6 Tryz.ntmps6<|Zs ?_;refine ZB fun g1=>?_;refine ZA SX fun g2=>Zx<|Zs ?_;refine Za<|Zx<|Ai<|Zs ?_;refine Za<|Zx<|As ?_;refine DC.own (fun w hw=>Ck (t:=39) (m:=2) hw) ?_;let ca:=AC g2 24 #[Iv 0,Nv];refine AS (ι:=CoI) (fun j=>j.i<=es.length)
  (fun j=>[(1,Pv g1),(2,Pv g2),(3,j.v),(4,Iv j.i)])
  (fun j=>Bf j.v 39 2 (Cj (es.take j.i))::[ca,AC g1 24 #[Iv N,.slice A es.length cap]]) (fun j=>es.length-j.i) ⟨0,Nv⟩ (A1E _)
  ⟨rfl,rfl,rfl,rfl,trivial⟩ (Bg (Ay _)) ?_;rintro⟨i,v⟩ hi;dsimp only at hi ⊢;refine Ai<|Zs<|Zz [2,2]<|Zx ?_;refine Zd ?_ ?_<;>intro c3
 .have hlt:i<es.length:=by simpa using c3
  obtain⟨e,he⟩:∃e,es[i]? =some e:=⟨_,A1d hlt⟩;obtain⟨ad,rfl,hU,hVe⟩:=hr.pair he;refine Ao<|Aa<|Ai<|As<|Ak<|Zz [2,1] ?_;refine Zo (Bz (ad':=ad.add (i*2)) J J J A1y CF (by omega) (by omega) J) ?_;refine Zu (A4 (vs:=[_,_]) J J Hw CF J (Fm hU hVe (by simp))) ?_;refine ZL #[_,_] A1y CF Fs fun g18=>?_;refine AU J J (Bt J J J A1y CF ZM Fs J (by decide) (by decide) (F:=[ca,AC g1 24 #[Iv N,.slice (some ad) es.length cap]]) (PK (BC (BC (BC .nil)))) (.inl ⟨_,_,J,AW J⟩) J (Lz [e]) (by simp;omega)) ?_;rintro v19 _ rfl;refine Za<|Az<|An<|Aa<|Ak ?_;refine Zz [3]<|Az ?_;refine AB ⟨i+1,v19⟩ (by dsimp only;omega) (by dsimp only;omega) ⟨J,J,J,J,trivial⟩ (.cons' 0 J (by dsimp only;rw[A1W,he,Dc];rfl) (Ay _))
 refine AN<|Ag<|Ag<|Aq<|Aa<|Ai ?_;have hie:i=es.length:=by simp at c3;omega
 subst hie;rw[A1T];refine DC.shape (t:=39) (m:=2) (vs:=Cj es) 0 J ?_;rintro⟨Av,lv,cv,rfl⟩;refine Ak<|Zz [1,1] ?_;refine ZS #[_,_] Ul ?_;refine Zq #[_,_]<|Zx<|At ?_;refine Co (cs:=#[_,_]) (.inl J) J J IL G2 ?_;exact⟨[Bf (.slice Av lv cv) 39 2 (Cj es)],fun w hw=>hw.pick (Bg .nil),_,_,_,J,J⟩
theorem Je(a:Int)(w:World):Calls A1c 107 #[Iv a] w (Ret w [] fun v L=>L=[]/\∃b,v= .bool b/\(b=true↔Ik a)):=by
 refine cO Tryz.func107 Tryz.ntmps107<|Zs ?_;refine Za<|Zx<|Zs ?_;refine Zz [3] ?_;refine AM 5 J (fun k1_2=>?_) (fun k1_2=>?_)
 .refine Zz [4]<|Zx<|At ?_;refine Zh ?_;refine⟨J,_,J,?_⟩;unfold Ik
  simp_all
  try omega
 refine Zz [4]<|Zx<|At ?_;refine Zh ?_;refine⟨J,_,J,?_⟩;unfold Ik
 simp_all
 try omega
theorem SF(a b c d:Int)(w:World):Calls A1c 106 #[.agg #[Iv a,Iv b],.agg #[Iv c,Iv d]] w (Ret w [] fun v L=>L=[]/\∃r,v= .bool r/\(r=true↔Lex (a,b) (c,d))):=by
 refine cO Tryz.func106 Tryz.ntmps106<|Zs ?_;refine ZB fun g2=>?_;refine ZB fun g3=>?_;refine Za<|Zx<|Zs ?_;refine Zz [1,1,2] ?_;refine AM 10 J (fun k1_5=>?_) (fun k1_5=>?_)
 .refine Zz [14]<|Zx<|At ?_;refine DN 4 ?_;refine Zh ?_;refine⟨J,_,J,?_⟩;unfold Lex
  simp_all
  try omega
 refine Zz [1,1,2] ?_;refine AM 16 J (fun k1_11=>?_) (fun k1_11=>?_)
 .refine Zz [1,1,4]<|Zx<|At ?_;refine DN 4 ?_;refine Zh ?_;refine⟨J,_,J,?_⟩;unfold Lex
  simp_all
  try omega
 refine Zz [8]<|Zx<|At ?_;refine DN 4 ?_;refine Zh ?_;refine⟨J,_,J,?_⟩;unfold Lex
 simp_all
 try omega
theorem PF(A:Option Addr)(len cap:Nat)(w:World):Calls A1c 212 #[.slice A len cap] w (Ret w [] fun v L=>L=[]/\v= Iv len):=by
 refine cO Tryz.func212 Tryz.ntmps212<|Zs ?_;refine Za<|Zx<|Zs ?_;refine Zz [3]<|Zx<|At ?_;refine Zh ?_;exact⟨J,J⟩
theorem PW(A:Option Addr)(len cap:Nat)(w:World):Calls A1c 213 #[.slice A len cap] w (Ret w [] fun v L=>L=[]/\v= Iv len):=by
 refine cO Tryz.func213 Tryz.ntmps213<|Zs ?_;refine Za<|Zx<|Zs ?_;refine Zz [3]<|Zx<|At ?_;refine Zh ?_;exact⟨J,J⟩
theorem PT(b:Bool)(A A':Option Addr)(n m cap cap':Nat)(w:World):
  Calls A1c 68 #[.agg #[.bool b,.slice A n cap,.slice A' m cap']] w (Ret w [] fun v L=>L=[]/\
   v=if b then .tuple #[.iface 215 (.slice A n cap),.bool (decide (m=0))] else .tuple #[.iface 216 (.slice A' m cap'),.bool (decide (n=0))]):=by
 refine cO Tryz.func68 Tryz.ntmps68<|Zs ?_;refine ZB fun g1=>?_;refine Zz [2]<|Zx<|Ai<|Zs ?_;refine Zz [1,0]<|Zx ?_;refine Zd ?_ ?_<;>intro c1
 .refine Ai ?_;refine Fv 10010 9 ?_;refine Yz [1,0] ?_;refine Yo J (I4 (v:=.iface 215 (.slice A n cap)) J J (fun w=>by kernel_rfl)) ?_;refine Yz [1,0] ?_;refine Yo J (EC J J A1y) ?_;refine Yz [3] ?_;refine AF J ?_;simp only[zq,zr];refine Aa<|At<|Ad ?_;refine Lm 2 3 ?_;refine Bq (.inl J) J J J ?_;exact⟨J,by subst c1;simp⟩
 refine Ao<|Aa<|Ai ?_;refine Fv 10010 9 ?_;refine Yz [1,0] ?_;refine Yo J (I4 (v:=.iface 216 (.slice A' m cap')) J J (fun w=>by kernel_rfl)) ?_;refine Yz [1,0] ?_;refine Yo J (EC J J A1B) ?_;refine Yz [3] ?_;refine AF J ?_;simp only[zq,zr];refine Aa<|At ?_;refine Lm 2 3 ?_;refine Bq (.inl J) J J J ?_;exact⟨J,by subst c1;simp⟩
theorem RX(ls:List (List Int))(v:Value)(w:World)(hv:IM w v ls):
  Calls A1c 69 #[.iface 215 v] w (Ret w [] fun r L=>L=[]/\∃b,r= .tuple #[Jp [112],Iv 1048576,.bool b]/\(b=true↔Kg ls)):=by
 obtain⟨A,cap,rfl,hr,hlc,hcm,hle⟩:=hv;refine cO Tryz.func69 Tryz.ntmps69<|Zs ?_;refine Zz [3]<|Zx<|Ai<|Zs ?_;refine Zm<|Zx<|As<|Zs ?_;refine Zo (Fg (v:=.tuple #[.slice A ls.length cap,.bool true]) J J (fun w=>by kernel_rfl)) ?_;refine Zz [2]<|Zx ?_;refine Bn J<|Zs ?_;refine Za<|Zx<|Ai<|Zs ?_;refine Zz [3]<|Zx ?_;refine Zd ?_ ?_<;>intro c4
 .refine Zs<|Zz [3]<|Zx<|At<|Ad<|Am<|Ad ?_;refine UB 2 3 4 ?_;refine Cw (.inl J) J J J J ?_;exact⟨rfl,false,rfl,by simp;rintro⟨h1,_⟩;simp at c4;omega⟩
 refine Ao<|Aa<|Ai<|Zs<|Zz [3]<|Zx<|As ?_;refine AS (ι:=Nat) (fun i=>i<=ls.length/\∀(j:Nat) l,j<i->ls[j]? =some l->A0d l)
  (fun i=>[(20,.slice A ls.length cap),(21,Iv ls.length),(22,Iv i)])
  (fun i=>[]) (fun i=>ls.length-i) 0 ⟨A1E _,fun _ _ h=>absurd h (A1w _)⟩ ⟨J,J,J,trivial⟩ .nil ?_;rintro i ⟨hi,hok⟩;refine Zs<|Zc<|Zx<|Ai ?_;refine Zd ?_ ?_<;>intro c7
 .have hlt:i<ls.length:=by simpa using c7
  obtain⟨l,hl⟩:∃l,ls[i]? =some l:=⟨_,A1d hlt⟩;obtain⟨ad,lv,rfl,hc,Al,capl,rfl,hrl,hl1,hl2,hl3⟩:=hr i l hl;refine Ao<|Aa<|Ai<|As<|Zs<|Zi Tryz.underlying215 ET ?_;refine Zu (AG J J D8 (A7 hc)) ?_;refine Za<|Zx<|Zs ?_;refine Zz [3]<|Zx<|As ?_;refine AS (ι:=Nat) (fun k=>k<=l.length/\∀(j:Nat) x a,j<k->l[j]? =some x->l[0]? =some a->Ik x/\a<=x)
   (fun k=>[(7,.slice Al l.length capl),(20,.slice (some ad) ls.length cap),(21,Iv ls.length),(22,Iv i),(26,.slice Al l.length capl),(27,Iv l.length),(28,Iv k)])
   (fun k=>[]) (fun k=>l.length-k) 0 ⟨A1E _,fun _ _ _ h=>absurd h (A1w _)⟩ ⟨J,J,J,J,J,J,J,trivial⟩ .nil ?_;rintro k ⟨hk,hokl⟩;refine Zs<|Zc<|Zx<|Ai ?_;refine Zd ?_ ?_<;>intro c10
  .have hlt2:k<l.length:=by simpa using c10
   obtain⟨x,hx⟩:∃x,l[k]? =some x:=⟨_,A1d hlt2⟩;obtain⟨a,ha⟩:∃a,l[0]? =some a:=⟨_,A1d (by omega)⟩;obtain⟨adl,rfl,hcx⟩:=hrl.int hx;obtain⟨adl',e',hca⟩:=hrl.int ha;cases e';refine Ao<|Aa<|Ai<|As<|Zs<|Zi A1x Bw ?_;refine Zu (AG J J CA (A7 hcx)) ?_;refine Za<|Zx<|Zs ?_;refine Zm ?_;refine AL J J (AH Y7 J J J (fun w hw=>Je x w)) ?_;rintro _ ⟨b1,rfl,hb1⟩;refine Zz [2] ?_;refine AM 35 J (fun k12_3=>?_) (fun k12_3=>?_)
   .refine Zz [6]<|Zx ?_;refine Bn J<|Zs ?_;refine Zz [3]<|Zx<|At<|Am<|Ad<|Ad<|Am<|Am<|Ad<|Ad<|Am<|Ad<|Am<|Ad ?_;refine UB 2 3 4 ?_;refine Cw (.inl J) J J J J ?_;refine⟨rfl,false,rfl,by simp;rintro⟨_,h2⟩;have:=h2 i l hl k x a hx ha;simp_all⟩
   refine Zz [2] ?_;refine Zi A1x Bw ?_;refine Zu (AG J J CA (A7 hca)) ?_;refine Zz [2]<|Zx ?_;refine Zd ?_ ?_<;>intro c12
   .refine Zs<|Zz [3]<|Zx<|At<|Am<|Ad<|Ad<|Am<|Am<|Ad<|Ad<|Am<|Ad<|Am<|Ad ?_;refine UB 2 3 4 ?_;refine Cw (.inl J) J J J J ?_;refine⟨rfl,false,rfl,by simp;rintro⟨_,h2⟩;have:=h2 i l hl k x a hx ha;simp_all;omega⟩
   refine Ao<|An<|Aa<|Ak<|Zz [2]<|Az ?_;refine AB (k+1) (by omega) ⟨by omega,?_⟩ ⟨J,J,J,J,J,J,J,trivial⟩ .nil;intro j x' a' hj hx' ha';rcases A1i.1 hj with hj|rfl
   .exact hokl j x' a' hj hx' ha'
   rw[hx] at hx';cases hx';rw[ha] at ha';cases ha';simp at k12_3 c12;exact⟨hb1.1 k12_3,by omega⟩
  refine AN<|Ag<|Ag<|Aq<|An<|Aa<|Ak<|Zz [2]<|Az ?_;have hkl:k=l.length:=by simp at c10;omega
  subst hkl;refine AB (i+1) (by omega) ⟨by omega,?_⟩ ⟨J,J,J,trivial⟩ .nil;intro j l' hj hl';rcases A1i.1 hj with hj|rfl
  .exact hok j l' hj hl'
  rw[hl] at hl';cases hl';intro q x' a' hq ha';exact hokl q x' a' (A1e.1 hq).1 hq ha'
 refine AN<|Ag<|Ag<|Aq<|Aa<|Zs<|Zz [3]<|Zx<|At<|Am<|Ad ?_;refine UB 2 3 4 ?_;refine Cw (.inl J) J J J J ?_;have hil:i=ls.length:=by simp at c7;omega
 subst hil;refine⟨J,true,J,by simp;exact⟨by simp at c4;omega,fun j l hl=>hok j l (A1e.1 hl).1 hl⟩⟩
theorem RY(es:List Pr)(v:Value)(w:World)(hv:DX w v es):
  Calls A1c 69 #[.iface 216 v] w (Ret w [] fun r L=>L=[]/\∃b,r= .tuple #[Jp [110],Iv 4194304,.bool b]/\(b=true↔FK es)):=by
 obtain⟨A,cap,rfl,hr,hlc,hcm,hle⟩:=hv;refine cO Tryz.func69 Tryz.ntmps69<|Zs ?_;refine Zz [3]<|Zx<|Ai<|Zs ?_;refine Zm<|Zx<|As<|Zs ?_;refine Zo (Fg (v:=.tuple #[Nv,.bool false]) J J (fun w=>by kernel_rfl)) ?_;refine Zz [2]<|Zx ?_;refine BN J<|Zs ?_;refine Zo (Fg (v:=.tuple #[.slice A es.length cap,.bool true]) J J (fun w=>by kernel_rfl)) ?_;refine Zz [2]<|Zx ?_;refine Bn J<|Zs ?_;refine Za<|Zx<|Ai<|Zs ?_;refine Zz [3]<|Zx ?_;refine Zd ?_ ?_<;>intro c19
 .refine Zs<|Zz [3]<|Zx<|At<|Ad<|Am<|Ad ?_;refine UB 2 3 4 ?_;refine Cw (.inl J) J J J J ?_;exact⟨rfl,false,rfl,by simp;intro h;have:=h.few;simp at c19;omega⟩
 refine Ao<|Aa<|Ai<|Zs<|Zz [3]<|Zx<|As ?_;refine AS (ι:=Nat) (fun i=>i<=es.length/\(∀(j:Nat) e,j<i->es[j]? =some e->Ik e.1/\Ik e.2/\e.1<e.2)/\∀(j:Nat) a b,j+1<i->es[j]? =some a->es[j+1]? =some b->Lex a b)
  (fun i=>[(10,.slice A es.length cap),(50,.slice A es.length cap),(51,Iv es.length),(52,Iv i)])
  (fun i=>[]) (fun i=>es.length-i) 0 ⟨A1E _,fun _ _ h=>absurd h (A1w _),fun _ _ _ h=>absurd h (A1w _)⟩ ⟨J,J,J,J,trivial⟩ .nil ?_;rintro i ⟨hi,hok,hup⟩;refine Zs<|Zc<|Zx<|Ai ?_;refine Zd ?_ ?_<;>intro c22
 .have hlt:i<es.length:=by simpa using c22
  obtain⟨e,he⟩:∃e,es[i]? =some e:=⟨_,A1d hlt⟩;obtain⟨ad,rfl,hU,hV⟩:=hr.pair he;refine Ao<|Aa<|Ai<|As<|Zs<|Zm ?_;refine Zo (Bz J J J Tryz.underlying216 CF (by omega) (by omega) (by first|exact AX _ _|exact Cm _ _ _|rfl)) ?_;refine Zu (A4 (vs:=[_,_]) J J Hw CF J (Fm hU hV (by simp))) ?_;refine ZA Fs fun g12=>?_;refine Za ?_;refine Zq #[_,_]<|Zx<|Ai ?_;refine Fv 4110000000000101000041000410 31 ?_;refine Yz [1,0] ?_;refine BF.rel0 J J J J (AH Y7 J J J (fun w hw=>Je e.1 w)) ?_;rintro _ ⟨b1,rfl,hb1⟩;refine Yz [2] ?_;refine BF.split 61 J (fun k24_4=>?_) (fun k24_4=>?_)
  .refine Yz [26] ?_;refine AF J ?_;simp only[zq,zr];refine Aa ?_;refine Bn J<|Zs ?_;refine Zz [3]<|Zx<|At<|Am<|Ad<|Ad<|Am<|Ad<|Am<|Ad ?_;refine UB 2 3 4 ?_;refine Cw (.inl J) J J J J ?_;exact⟨rfl,false,rfl,by simp;intro h;have:=h.ok i e he;simp_all⟩
  refine Yz [1,0] ?_;refine BF.rel0 J J J J (AH Y7 J J J (fun w hw=>Je e.2 w)) ?_;rintro _ ⟨b2,rfl,hb2⟩;refine Yz [3] ?_;refine BF.split 67 J (fun k24_10=>?_) (fun k24_10=>?_)
  .refine Yz [20] ?_;refine AF J ?_;simp only[zq,zr];refine Aa ?_;refine Bn J<|Zs ?_;refine Zz [3]<|Zx<|At<|Am<|Ad<|Ad<|Am<|Ad<|Am<|Ad ?_;refine UB 2 3 4 ?_;refine Cw (.inl J) J J J J ?_;exact⟨rfl,false,rfl,by simp;intro h;have:=h.ok i e he;simp_all⟩
  refine Yz [1,1,3] ?_;refine BF.split 74 J (fun k24_17=>?_) (fun k24_17=>?_)
  .refine Yz [13] ?_;refine AF J ?_;simp only[zq,zr];refine Aa ?_;refine Bn J<|Zs ?_;refine Zz [3]<|Zx<|At<|Am<|Ad<|Ad<|Am<|Ad<|Am<|Ad ?_;refine UB 2 3 4 ?_;refine Cw (.inl J) J J J J ?_;exact⟨rfl,false,rfl,by simp;intro h;have:=h.ok i e he;simp_all;omega⟩
  refine Yz [3] ?_;refine BF.split 77 J (fun k24_20=>?_) (fun k24_20=>?_)
  .have hpos:0<i:=by simpa using k24_20
   obtain⟨d,hd⟩:∃d,es[i-1]? =some d:=⟨_,A1d (by omega)⟩;obtain⟨ad',h',hU',hV'⟩:=hr.pair hd;cases h';have hii:((i:Int)-1).toNat=i-1:=by omega
   refine Yz [3] ?_;refine Yo J (Bz (ad':=ad.add ((i-1)*2)) J J J Tryz.underlying216 CF (by omega) (by omega) (by rw[hii])) ?_;refine Bp J J J J (A4 (vs:=[_,_]) J J Hw CF J (Fm hU' hV' (by simp))) ?_;refine Bp J J J J (A4 (vs:=[_,_]) J J Hw CF J (AW J)) ?_;refine BF.rel0 J J J J (AH en106 J J J (fun w hw=>SF d.1 d.2 e.1 e.2 w)) ?_;rintro _ ⟨b3,rfl,hb3⟩;refine Yz [3] ?_;refine AF J ?_;simp only[zq,zr];refine Aa ?_;refine Zd ?_ ?_<;>intro c24
   .refine Zs<|Zz [3]<|Zx<|At<|Am<|Ad<|Ad<|Am<|Ad<|Am<|Ad ?_;refine UB 2 3 4 ?_;refine Cw (.inl J) J J J J ?_;refine⟨rfl,false,rfl,by simp;intro h;have:=h.up (i-1) d e hd (by rw[show i-1+1=i by omega];exact he);simp_all⟩
   refine Ao<|An<|Aa<|Ak<|Zz [2]<|Az ?_;refine AB (i+1) (by omega) ⟨by omega,?_,?_⟩ ⟨J,J,J,J,trivial⟩ .nil
   .intro j x hj hx;rcases A1i.1 hj with hj|rfl
    .exact hok j x hj hx
    rw[he] at hx;cases hx;simp at k24_4 k24_10 k24_17;exact⟨hb1.1 k24_4,hb2.1 k24_10,by omega⟩
   intro j a b hj ha hb;rcases A1i.1 hj with hj|hj
   .exact hup j a b hj ha hb
   obtain rfl:j=i-1:=by omega
   rw[hd] at ha;cases ha;rw[show i-1+1=i by omega,he] at hb;cases hb;exact hb3.1 (by simpa using c24)
  refine Yz [10] ?_;refine AF J ?_;simp only[zq,zr];refine Aa ?_;refine BN J<|Ao<|An<|Aa<|Ak ?_;refine Zz [2]<|Az ?_;have h0:i=0:=by simp at k24_20;omega
  subst h0;refine AB 1 (by omega) ⟨by omega,?_,?_⟩ ⟨J,J,J,J,trivial⟩ .nil
  .intro j x hj hx;obtain rfl:j=0:=by omega
   rw[he] at hx;cases hx;simp at k24_4 k24_10 k24_17;exact⟨hb1.1 k24_4,hb2.1 k24_10,by omega⟩
  intro j a b hj;omega
 refine AN<|Ag<|Ag<|Aq<|Aa<|Zs<|Zz [3]<|Zx<|At<|Am<|Ad ?_;refine UB 2 3 4 ?_;refine Cw (.inl J) J J J J ?_;have hil:i=es.length:=by simp at c22;omega
 subst hil;refine⟨J,true,J,by simp;exact⟨by simp at c19;omega,fun j e h=>hok j e (A1e.1 h).1 h,fun j a b ha hb=>hup j a b (A1e.1 hb).1 ha hb⟩⟩
abbrev byc(l:List UInt8):List Value:=Lib.byteCells l
@[simp] theorem byc_len (l:List UInt8):(byc l).length=l.length:=Lib.byteCells_length l
theorem byc_get{l:List UInt8}{i:Nat}{b:UInt8}(h:l[i]? =some b):(byc l)[i]? =some (.int .u8 b.toNat):=by simp[byc,Lib.byteCells,h]
section
variable{P:Program}{w0 w:World}{K:List Nat}{n:Nat}{ds:List Deferred}{E:Env}{L F:List Chunk}{o:Oper}{x y z:Operand}{v u:Value}
end
theorem Gs:∀(k u:Nat),u<10^(k+1)->(Lib.decDigits u).length<=k+1
 | 0,u,h=>by rw[Lib.decDigits,dif_pos (by simpa using h)];simp
 | k+1,u,h=>by
  rw[Lib.decDigits];split
  .simp
  have:=Gs k (u / 10) (by rw[Nat.div_lt_iff_lt_mul (by decide)];rw[Nat.pow_succ] at h;exact h);simp;omega
theorem RU{a:Int}(h: -9223372036854775808<=a/\a<=9223372036854775807):(Lib.itoa a).length<=20:=by
 unfold Lib.itoa;split
 .have:=Gs 18 a.natAbs (by rw[show(10:Nat)^(18+1)=10000000000000000000 by decide];omega);simp;omega
 have:=Gs 18 a.toNat (by rw[show(10:Nat)^(18+1)=10000000000000000000 by decide];omega);omega
def HG(ns:List Int):List UInt8:=Lib.join (ns.map Lib.itoa) [32]++[10]
theorem MG{k:Nat}:∀(xs:List (List UInt8)),(∀x,x∈xs->x.length<=k)->(Lib.join xs [32]).length<=(k+1)*xs.length
 | [],_=>by simp[Lib.join]
 | [x],h=>by simp[Lib.join,List.intercalate];have:=h x (by simp);omega
 | x::y::r,h=>by
  have h1:=h x (by simp);have h2:=MG (y::r) (fun z hz=>h z (A1q _ hz));have e:Lib.join (x::y::r) [32]=x++[32]++Lib.join (y::r) [32]:=by simp[Lib.join,List.intercalate,List.intersperse]
  rw[e];simp only[A1V,A2a,A2H] at h2 ⊢;rw[Nat.mul_add,Nat.mul_add] at *;omega
def Qv(a:Int):Prop:= -9223372036854775808<=a/\a<=9223372036854775807
theorem Iw{ns:List Int}(h:∀a,a∈ns->Qv a):(HG ns).length<=21*ns.length+1:=by
 have:=MG (k:=20) (ns.map Lib.itoa) (by simp;intro a ha;exact RU (h a ha));simp[HG] at this ⊢;omega
def L3(xs:List (List UInt8)):List Value:=xs.map Jp
@[simp] theorem strs_length (xs:List (List UInt8)):(L3 xs).length=xs.length:=by simp[L3]
theorem XK(a:List (List UInt8)):∀u,u∈L3 a->u.oneCell'=true:=by
 intro u hu;simp[L3] at hu;obtain⟨x,_,rfl⟩:=hu;rfl
theorem Mq(w:World)(k:Nat)(os:Array Obj):AR w [] (Sort.grow (w.drewN k) os) []:=by
 refine⟨rfl,rfl,rfl,.inr (by simp[Sort.grow,World.drewN]),by simp[Sort.grow,World.drewN],fun i hi _=>?_,by simp,by simp,by simp,by simp⟩;have:(w.drewN k).heap=w.heap:=rfl;simp only[Sort.grow,this];rw[Array.getElem?_append_left hi]
end Go.Fl
namespace Go.Proofs
open Go.Shelf
def Tryz.lays170_ren:Go.Shelf.Ren:=⟨fun|170=>73|n=>n,fun|70=>164|3=>3|0=>0|72=>166|37=>41|5=>5|n=>n,fun|n=>n⟩
theorem P9:Go.Proofs.Lays.n170 A1c Tryz.lays170_ren:={
 mixed:=by kernel_rfl
 f170:=Tryz.func73.trans (congrArg some (by kernel_rfl))
 t0:=Tryz.underlying0
 a0:=Tryz.isAgg0
 z0:=Tryz.sizeOf0
 v0:=Tryz.zeroValue0
 t3:=Tryz.underlying3
 a3:=Tryz.isAgg3
 z3:=Tryz.sizeOf3
 v3:=Tryz.zeroValue3
 t37:=Tryz.underlying41
 a37:=Tryz.isAgg41
 z37:=Tryz.sizeOf41
 v37:=Tryz.zeroValue41
 t70:=Tryz.underlying164
 a70:=Tryz.isAgg164
 z70:=Tryz.sizeOf164
 v70:=Tryz.zeroValue164
 t72:=Tryz.underlying166
 a72:=Tryz.isAgg166
 z72:=Tryz.sizeOf166
 v72:=Tryz.zeroValue166 }
open Go.RowKit in
theorem Tryz.Builder_Len(B b:Nat)(bs:List Value)(w:World)(h:Lib.IsBuilder 166 5 B b bs w):
  Calls A1c 73 #[.pointer (some ⟨b,0,none⟩)] w fun e w'=>e= .returned (.int .i64 bs.length)/\w'=w:=Any.Builder_Len P9 B b bs w h
def Tryz.lays169_ren:Go.Shelf.Ren:=⟨fun|169=>74|n=>n,fun|70=>164|9=>9|0=>0|72=>166|37=>41|127=>220|3=>3|5=>5|n=>n,fun|n=>n⟩
theorem Qc:Go.Proofs.Lays.n169 A1c Tryz.lays169_ren:={
 mixed:=by kernel_rfl
 f169:=Tryz.func74.trans (congrArg some (by kernel_rfl))
 t0:=Tryz.underlying0
 a0:=Tryz.isAgg0
 z0:=Tryz.sizeOf0
 v0:=Tryz.zeroValue0
 t3:=Tryz.underlying3
 a3:=Tryz.isAgg3
 z3:=Tryz.sizeOf3
 v3:=Tryz.zeroValue3
 t9:=Tryz.underlying9
 a9:=Tryz.isAgg9
 z9:=Tryz.sizeOf9
 v9:=Tryz.zeroValue9
 t37:=Tryz.underlying41
 a37:=Tryz.isAgg41
 z37:=Tryz.sizeOf41
 v37:=Tryz.zeroValue41
 t70:=Tryz.underlying164
 a70:=Tryz.isAgg164
 z70:=Tryz.sizeOf164
 v70:=Tryz.zeroValue164
 t72:=Tryz.underlying166
 a72:=Tryz.isAgg166
 z72:=Tryz.sizeOf166
 v72:=Tryz.zeroValue166
 t127:=Tryz.underlying220
 a127:=Tryz.isAgg220
 z127:=Tryz.sizeOf220
 v127:=Tryz.zeroValue220 }
theorem Hy:Builder.Extra A1c Tryz.lays169_ren:={
 sizeBuilder:=by kernel_rfl
 liesBuilder:=by kernel_rfl
 t5:=Tryz.underlying5
 a5:=Tryz.isAgg5
 z5:=Tryz.sizeOf5
 v5:=Tryz.zeroValue5
 infoByte:=by kernel_rfl
 cellsByte:=by kernel_rfl
 sizeByte:=by kernel_rfl
 neB5:=by decide }
open Go.RowKit in
theorem Tryz.Builder_String_any(B b:Nat)(l:List UInt8)(w:World)(h:Lib.IsBuilder 166 5 B b (Lib.byteCells l) w)(hBw:B<=w.heap.size):
  Calls A1c 74 #[.pointer (some ⟨b,0,none⟩)] w fun e w'=>e= .returned (.string ⟨l.toArray⟩)/\Below B w w':=Any.Builder_String_any Qc Hy B b l w h hBw
def Tryz.lays156_ren:Go.Shelf.Ren:=⟨fun|156=>110|165=>144|166=>70|169=>74|240=>108|241=>171|276=>142|277=>180|n=>n,fun|31=>217|9=>9|3=>3|4=>4|0=>0|20=>20|72=>166|76=>169|70=>164|37=>41|75=>168|127=>220|164=>255|5=>5|80=>173|n=>n,fun|n=>n⟩
theorem Hx:Go.Proofs.Lays.n156 A1c Tryz.lays156_ren:={
 mixed:=by kernel_rfl
 f156:=Tryz.func110.trans (congrArg some (by kernel_rfl))
 f165:=Tryz.func144.trans (congrArg some (by kernel_rfl))
 f166:=Tryz.func70.trans (congrArg some (by kernel_rfl))
 f169:=Tryz.func74.trans (congrArg some (by kernel_rfl))
 f240:=Tryz.func108.trans (congrArg some (by kernel_rfl))
 f241:=Tryz.func171.trans (congrArg some (by kernel_rfl))
 f276:=Tryz.func142.trans (congrArg some (by kernel_rfl))
 f277:=Tryz.func180.trans (congrArg some (by kernel_rfl))
 t0:=Tryz.underlying0
 a0:=Tryz.isAgg0
 z0:=Tryz.sizeOf0
 v0:=Tryz.zeroValue0
 t3:=Tryz.underlying3
 a3:=Tryz.isAgg3
 z3:=Tryz.sizeOf3
 v3:=Tryz.zeroValue3
 t4:=Tryz.underlying4
 a4:=Tryz.isAgg4
 z4:=Tryz.sizeOf4
 v4:=Tryz.zeroValue4
 t9:=Tryz.underlying9
 a9:=Tryz.isAgg9
 z9:=Tryz.sizeOf9
 v9:=Tryz.zeroValue9
 t20:=Tryz.underlying20
 a20:=Tryz.isAgg20
 z20:=Tryz.sizeOf20
 v20:=Tryz.zeroValue20
 t31:=Tryz.underlying217
 a31:=Tryz.isAgg217
 z31:=Tryz.sizeOf217
 v31:=Tryz.zeroValue217
 t37:=Tryz.underlying41
 a37:=Tryz.isAgg41
 z37:=Tryz.sizeOf41
 v37:=Tryz.zeroValue41
 t70:=Tryz.underlying164
 a70:=Tryz.isAgg164
 z70:=Tryz.sizeOf164
 v70:=Tryz.zeroValue164
 t72:=Tryz.underlying166
 a72:=Tryz.isAgg166
 z72:=Tryz.sizeOf166
 v72:=Tryz.zeroValue166
 t75:=Tryz.underlying168
 a75:=Tryz.isAgg168
 z75:=Tryz.sizeOf168
 v75:=Tryz.zeroValue168
 t76:=Tryz.underlying169
 a76:=Tryz.isAgg169
 z76:=Tryz.sizeOf169
 v76:=Tryz.zeroValue169
 t127:=Tryz.underlying220
 a127:=Tryz.isAgg220
 z127:=Tryz.sizeOf220
 v127:=Tryz.zeroValue220
 t164:=Tryz.underlying255
 a164:=Tryz.isAgg255
 z164:=Tryz.sizeOf255
 v164:=Tryz.zeroValue255 }
theorem Dv:Builder.Extra A1c Tryz.lays156_ren:={
 sizeBuilder:=by kernel_rfl
 liesBuilder:=by kernel_rfl
 t5:=Tryz.underlying5
 a5:=Tryz.isAgg5
 z5:=Tryz.sizeOf5
 v5:=Tryz.zeroValue5
 infoByte:=by kernel_rfl
 cellsByte:=by kernel_rfl
 sizeByte:=by kernel_rfl
 neB5:=by decide }
open Go.RowKit in
theorem Tryz.strings_Join_none(a:Option Addr)(c:Nat)(sep:ByteArray)(w:World):
  Calls A1c 110 #[.slice a 0 c,.string sep] w fun e w'=>e= .returned (.string ⟨#[]⟩)/\w'=w:=Any.strings_Join_none Hx Dv a c sep w
open Go.RowKit in
theorem Tryz.strings_Join(bk o c:Nat)(xs:List ByteArray)(sep:ByteArray)(w:World)(hcells:∀(j:Nat) x,xs[j]? =some x->w.cell? ⟨bk,o+j,none⟩=some (.string x))(hbk:bk<w.heap.size)(hN:xs.length<=140737488355328)(hcap:xs.length<=c)(hlen:(Lib.join (xs.map (·.data.toList)) sep.data.toList).length<=140737488355328):
  Calls A1c 110 #[.slice (some ⟨bk,o,none⟩) xs.length c,.string sep] w fun e w'=>e= .returned (.string ⟨(Lib.join (xs.map (·.data.toList)) sep.data.toList).toArray⟩)/\Below w.heap.size w w':=Any.strings_Join Hx Dv bk o c xs sep w hcells hbk hN hcap hlen
def Tryz.laysM171_ren:Go.Shelf.Ren:=⟨fun|171=>143|243=>170|246=>179|283=>185|284=>186|285=>187|286=>188|129=>141|317=>190|318=>191|319=>192|320=>193|337=>194|338=>195|n=>n,fun|3=>3|9=>9|2=>2|4=>4|171=>284|0=>0|53=>254|37=>41|5=>5|173=>286|212=>290|51=>252|20=>20|213=>291|46=>213|232=>292|233=>293|n=>n,fun|17=>2|18=>3|19=>4|n=>n⟩
theorem NM:Go.Proofs.LaysM.n171 A1c Tryz.laysM171_ren:={
 mixed:=by kernel_rfl
 f129:=Tryz.func141.trans (congrArg some (by kernel_rfl))
 f171:=Tryz.func143.trans (congrArg some (by kernel_rfl))
 f243:=Tryz.func170.trans (congrArg some (by kernel_rfl))
 f246:=Tryz.func179.trans (congrArg some (by kernel_rfl))
 f283:=Tryz.func185.trans (congrArg some (by kernel_rfl))
 f284:=Tryz.func186.trans (congrArg some (by kernel_rfl))
 f285:=Tryz.func187.trans (congrArg some (by kernel_rfl))
 f286:=Tryz.func188.trans (congrArg some (by kernel_rfl))
 f317:=Tryz.func190.trans (congrArg some (by kernel_rfl))
 f318:=Tryz.func191.trans (congrArg some (by kernel_rfl))
 f319:=Tryz.func192.trans (congrArg some (by kernel_rfl))
 f320:=Tryz.func193.trans (congrArg some (by kernel_rfl))
 f337:=Tryz.func194.trans (congrArg some (by kernel_rfl))
 f338:=Tryz.func195.trans (congrArg some (by kernel_rfl))
 t0:=Tryz.underlying0
 a0:=Tryz.isAgg0
 z0:=Tryz.sizeOf0
 v0:=Tryz.zeroValue0
 t2:=Tryz.underlying2
 a2:=Tryz.isAgg2
 z2:=Tryz.sizeOf2
 v2:=Tryz.zeroValue2
 t3:=Tryz.underlying3
 a3:=Tryz.isAgg3
 z3:=Tryz.sizeOf3
 v3:=Tryz.zeroValue3
 t4:=Tryz.underlying4
 a4:=Tryz.isAgg4
 z4:=Tryz.sizeOf4
 v4:=Tryz.zeroValue4
 t5:=Tryz.underlying5
 a5:=Tryz.isAgg5
 z5:=Tryz.sizeOf5
 v5:=Tryz.zeroValue5
 t9:=Tryz.underlying9
 a9:=Tryz.isAgg9
 z9:=Tryz.sizeOf9
 v9:=Tryz.zeroValue9
 t20:=Tryz.underlying20
 a20:=Tryz.isAgg20
 z20:=Tryz.sizeOf20
 v20:=Tryz.zeroValue20
 t37:=Tryz.underlying41
 a37:=Tryz.isAgg41
 z37:=Tryz.sizeOf41
 v37:=Tryz.zeroValue41
 t46:=Tryz.underlying213
 a46:=Tryz.isAgg213
 z46:=Tryz.sizeOf213
 v46:=Tryz.zeroValue213
 t51:=Tryz.underlying252
 a51:=Tryz.isAgg252
 z51:=Tryz.sizeOf252
 v51:=Tryz.zeroValue252
 t53:=Tryz.underlying254
 a53:=Tryz.isAgg254
 z53:=Tryz.sizeOf254
 v53:=Tryz.zeroValue254
 t171:=Tryz.underlying284
 a171:=Tryz.isAgg284
 z171:=Tryz.sizeOf284
 v171:=Tryz.zeroValue284
 t173:=Tryz.underlying286
 a173:=Tryz.isAgg286
 z173:=Tryz.sizeOf286
 v173:=Tryz.zeroValue286
 t212:=Tryz.underlying290
 a212:=Tryz.isAgg290
 z212:=Tryz.sizeOf290
 v212:=Tryz.zeroValue290
 t213:=Tryz.underlying291
 a213:=Tryz.isAgg291
 z213:=Tryz.sizeOf291
 t232:=Tryz.underlying292
 a232:=Tryz.isAgg292
 z232:=Tryz.sizeOf292
 v232:=Tryz.zeroValue292
 t233:=Tryz.underlying293
 a233:=Tryz.isAgg293
 z233:=Tryz.sizeOf293
 v233:=Tryz.zeroValue293
 g17:=by kernel_rfl
 g18:=by kernel_rfl
 g19:=by kernel_rfl
 i0:=by kernel_rfl
 i2:=by kernel_rfl
 i3:=by kernel_rfl
 i4:=by kernel_rfl
 i5:=by kernel_rfl
 i9:=by kernel_rfl
 i20:=by kernel_rfl
 i37:=by kernel_rfl
 i46:=by kernel_rfl
 i51:=by kernel_rfl
 i53:=by kernel_rfl
 i171:=by kernel_rfl
 i173:=by kernel_rfl
 i212:=by kernel_rfl
 i232:=by kernel_rfl
 i233:=by kernel_rfl
 m17:=by kernel_rfl
 m18:=by kernel_rfl
 m19:=by kernel_rfl }
open Go.RowKit Go.Sort Go.Lib in
theorem Tryz.strconv_Itoa(n:Int)(h0: -9223372036854775808<=n)(h1:n<=9223372036854775807)(w:World)(htab:Lib.TabIs A1c w "internal/strconv.uint64pow10" .u64 Lib.pow10Tab):
  Calls A1c 143 #[.int .i64 n] w fun e w'=>e= .returned (.string ⟨(Lib.itoa n).toArray⟩)/\∃k os,w'=grow (w.drewN k) os:=Any.strconv_Itoa NM n h0 h1 w htab
def Tryz.lays112_ren:Go.Shelf.Ren:=⟨fun|112=>154|n=>n,fun|28=>37|3=>3|4=>4|0=>0|n=>n,fun|n=>n⟩
theorem Kd:Go.Proofs.Lays.n112 A1c Tryz.lays112_ren:={
 mixed:=by kernel_rfl
 f112:=Tryz.func154.trans (congrArg some (by kernel_rfl))
 t0:=Tryz.underlying0
 a0:=Tryz.isAgg0
 z0:=Tryz.sizeOf0
 v0:=Tryz.zeroValue0
 t3:=Tryz.underlying3
 a3:=Tryz.isAgg3
 z3:=Tryz.sizeOf3
 v3:=Tryz.zeroValue3
 t4:=Tryz.underlying4
 a4:=Tryz.isAgg4
 z4:=Tryz.sizeOf4
 v4:=Tryz.zeroValue4
 t28:=A1x
 a28:=Tryz.isAgg37
 z28:=Tryz.sizeOf37
 v28:=Tryz.zeroValue37 }
open Go.RowKit Go.Lib Go.Sort in
theorem Tryz.slices_Reverse_int(AC off cap:Nat)(zs:List Int)(w:World)(hH:Holds (Value.int .i64) w AC off zs.toArray)(hsz:zs.length<=9223372036854775807):
  Calls A1c 154 #[.slice (some ⟨AC,off,none⟩) zs.length cap] w fun e w'=>e= .returned (.tuple #[])/\∃n,w'=putRow (Value.int .i64) (Sort.ahead w n) AC off zs.reverse.toArray:=Any.slices_Reverse_int Kd AC off cap zs w hH hsz
open Go.RowKit Go.Lib Go.Sort in
theorem Tryz.slices_Reverse_int_empty(a:Option Addr)(cap:Nat)(w:World):
  Calls A1c 154 #[.slice a 0 cap] w fun e w'=>e= .returned (.tuple #[])/\w'=w:=Any.slices_Reverse_int_empty Kd a cap w
def Tryz.laysNm215_ren:Go.Shelf.Ren:=⟨fun|15=>153|n=>n,fun|22=>37|3=>3|4=>4|n=>n,fun|n=>n⟩
theorem F9:Go.Proofs.Lays2.n15 A1c Tryz.laysNm215_ren:={
 mixed:=by kernel_rfl
 f15:=Tryz.func153.trans (congrArg some (by kernel_rfl))
 t3:=Tryz.underlying3
 a3:=Tryz.isAgg3
 z3:=Tryz.sizeOf3
 v3:=Tryz.zeroValue3
 t4:=Tryz.underlying4
 a4:=Tryz.isAgg4
 z4:=Tryz.sizeOf4
 v4:=Tryz.zeroValue4
 t22:=A1x
 a22:=Tryz.isAgg37
 z22:=Tryz.sizeOf37
 v22:=Tryz.zeroValue37
 i3:=by kernel_rfl }
open Go.RowKit Go.Lib in
theorem Tryz.slices_Clone_int(b off n c:Nat)(zs:List Int)(w:World)(hz:n<=zs.length)(hbig:n*8<=140737488355328)(hc:∀j,j<zs.length->w.cell? ⟨b,off+j,none⟩=some (.int .i64 (zs.getD j 0))):
  Calls A1c 153 #[.slice (some ⟨b,off,none⟩) n c] w fun e w'=>∃v',e= .returned v'/\w'.ownsRow w.heap.size 3 1 v' n ((zs.take n).map (Value.int .i64))/\v'≠.slice none 0 0/\Below w.heap.size w w':=Any.slices_Clone_int F9 b off n c zs w hz hbig hc
open Go.RowKit Go.Lib in
theorem Tryz.slices_Clone_int_nil(n c:Nat)(w:World):
  Calls A1c 153 #[.slice none n c] w fun e w'=>e= .returned (.slice none 0 0)/\w'=w:=Any.slices_Clone_int_nil F9 n c w
open Go.RowKit Go.Lib in
theorem Tryz.slices_Clone_int_zero(a:Addr)(c:Nat)(w:World):
  Calls A1c 153 #[.slice (some a) 0 c] w fun e w'=>∃v',e= .returned v'/\w'.ownsRow w.heap.size 3 1 v' 0 []/\v'≠.slice none 0 0/\Below w.heap.size w w':=Any.slices_Clone_int_zero F9 a c w
open Go.RowKit in
theorem Tryz.Builder_WriteString(B b:Nat)(bs:List Value)(s:ByteArray)(w:World)(h:Lib.IsBuilder 166 5 B b bs w)(hlen:bs.length+s.size<=140737488355328)(hBw:B<=w.heap.size):
  Calls A1c 70 #[.pointer (some ⟨b,0,none⟩),.string s] w fun e w'=>e= .returned (.tuple #[.int .i64 s.size,.nilIface])/\(Lib.BuilderAt 166 5 B b (.pointer (some ⟨b,0,none⟩)) (bs++Lib.strCells s) w'/\Below B w w'):=
 Any.Builder_WriteString { Hx with } Dv B b bs s w h hlen hBw
end Go.Proofs
namespace Go.Fl
open Go Go.Proofs
def Qh(w:World):Prop:=Lib.TabIs A1c w "internal/strconv.uint64pow10" .u64 Lib.pow10Tab
theorem Qh.keep0{w0 w:World}{L:List Chunk}(h:Qh w0)(hw:AR w0 [] w L):Qh w:=by
 unfold Qh Lib.TabIs World.var? at *;cases hg:A1c.globalNamed "internal/strconv.uint64pow10" with
 | none=>rw[hg] at h;cases h
 | some g=>
  rw[hg] at h;simp only[Option.bind_some] at h ⊢;have hlt:g<w0.heap.size:=by
   rcases Nat.lt_or_ge g w0.heap.size with h1|h1
   .exact h1
   rw[Array.getElem?_eq_none h1] at h;cases h
  rw[hw.old g hlt (by simp)];exact h
theorem TW{a:Int}{w:World}(ha:Qv a)(hp:Qh w):Calls A1c 143 #[Iv a] w (Ret w [] fun v L=>L=[]/\v=Jp (Lib.itoa a)):=by
 refine(Tryz.strconv_Itoa a ha.1 ha.2 w hp).mono ?_;rintro e w' ⟨rfl,k,os,rfl⟩;exact⟨_,[],J,⟨J,J⟩,Mq w k os⟩
theorem S7{a:Int}{w:World}(ha:Qv a)(hp:Qh w):Calls A1c 109 #[Iv a] w (Ret w [] fun v L=>L=[]/\v=Jp (Lib.itoa a)):=by
 refine cO Tryz.func109 Tryz.ntmps109<|Zs ?_;refine Za<|Zx<|Zs ?_;refine Zm ?_;refine AL J J (AH en143 J J J (fun w hw=>TW ha (hp.keep0 hw))) ?_;rintro _ rfl;refine Za<|Zx<|At ?_;refine Zh ?_;exact⟨J,J⟩
theorem RT{c:Nat}{w:World}:Calls A1c 110 #[.slice none 0 c,Jp [32]] w (Ret w [] fun v L=>L=[]/\v=Jp []):=by
 refine(Tryz.strings_Join_none none c _ w).mono ?_;rintro e w' ⟨rfl,rfl⟩;exact⟨_,[],J,⟨J,J⟩,B8 _ _⟩
theorem RS{g c t:Nat}{xs:List (List UInt8)}{sp:List Value}{w:World}(hb:w.heap[g]? =some (.cells (L3 xs++sp).toArray t (0,0)))(hN:xs.length<=140737488355328)(hc:xs.length<=c)(hl:(Lib.join xs [32]).length<=140737488355328):
  Calls A1c 110 #[.slice (So g) xs.length c,Jp [32]] w (Ret w [] fun v L=>L=[]/\v=Jp (Lib.join xs [32])):=by
 have e1:(xs.map fun l=>(⟨l.toArray⟩:ByteArray)).map (·.data.toList)=xs:=by rw[A3H];exact List.map_id'' (fun _=>rfl) xs
 have h:=Tryz.strings_Join g 0 c (xs.map fun l=>(⟨l.toArray⟩:ByteArray)) ⟨[32].toArray⟩ w ?_ ?_ (by simpa using hN) (by simpa using hc) (by rw[e1];exact hl)
 .rw[e1] at h;simp only[A1S] at h;refine h.mono ?_;rintro e w' ⟨rfl,hbl⟩;exact⟨_,[],J,⟨J,J⟩,own_below hbl⟩
 .intro j x hj;simp only[A1U,A2o] at hj;obtain⟨l,hl,rfl⟩:=hj;rw[cell_of_row w g _ _ t (0,0) hb];have:j<xs.length:=(A1e.1 hl).1;rw[A1d this] at hl;cases hl;simp[L3,List.getElem?_append,this,Jp]
 exact(A1t.1 hb).1
theorem TV{xs:List (List UInt8)}{v:Value}{w0 w:World}{K:List Nat}{F:List Chunk}(hO:AR w0 K w (Bf v 9 1 (L3 xs)::F))(hN:xs.length<=140737488355328)(hl:(Lib.join xs [32]).length<=140737488355328):
  Calls A1c 110 #[v,Jp [32]] w (Ret w [] fun v L=>L=[]/\v=Jp (Lib.join xs [32])):=by
 rcases DA hO with⟨rfl,e2,_⟩|⟨g,len,cap',sp,rfl,e2,e3,e4,e5,hO'⟩
 .have e3:xs=[]:=by simpa [L3] using e2
  subst e3;exact RT
 have e6:len=xs.length:=by simpa [L3] using e2.symm
 subst e6;exact RS (hO'.holds _ (A1m ..)) hN e3 hl
structure LineI where
 i:Nat
 v:Value
theorem I9{ns:List Int}{v:Value}{w:World}(hv:FD w v ns)(hi:∀a,a∈ns->Qv a)(hp:Qh w)(hl:ns.length<=2199023255552):
  Calls A1c 71 #[v] w (Ret w [] fun v L=>L=[]/\v=Jp (HG ns)):=by
 obtain⟨A,cap,rfl,hr,hlc,hcm,hle⟩:=hv;refine cO Tryz.func71 Tryz.ntmps71<|Zs ?_;refine Za<|Zx<|Zs ?_;refine Za<|Zx<|Ai<|Zs ?_;refine Zz [3]<|Zx<|As ?_;refine DC.own (fun w hw=>Ck (t:=9) (m:=1) hw) ?_;refine AS (ι:=LineI) (fun j=>j.i<=ns.length)
  (fun j=>[(3,j.v),(6,.slice A ns.length cap),(7,Iv ns.length),(8,Iv j.i)])
  (fun j=>[Bf j.v 9 1 (L3 ((ns.take j.i).map Lib.itoa))]) (fun j=>ns.length-j.i) ⟨0,Nv⟩ (A1E _) ⟨J,J,J,J,trivial⟩ (Bg .nil) ?_;rintro⟨i,v3⟩ hi';dsimp only at hi' ⊢;refine Zs<|Zc<|Zx<|Ai ?_;refine Zd ?_ ?_<;>intro c3
 .have hlt:i<ns.length:=by simpa using c3
  obtain⟨x,hx⟩:∃x,ns[i]? =some x:=⟨_,A1d hlt⟩;obtain⟨ad,rfl,hcx⟩:=hr.int hx;have hxi:Qv x:=hi x (A1h hx);refine Ao<|Aa<|Ai<|As<|Zs<|Zi A1x Bw ?_;refine Zu (AG J J CA (A7 hcx)) ?_;refine Za<|Zx<|Ak ?_;refine Zz [2] ?_;refine AL J J (AH en109 J J J (fun w hw=>S7 hxi (hp.keep0 hw))) ?_;rintro _ rfl;refine ZL #[_] Tryz.underlying217 sz9 ze9 fun g15=>?_;refine AU J J (Bt J J J Tryz.underlying217 sz9 by9 ze9 J (by decide) (by decide) (PK (BC .nil)) (.inl ⟨_,_,J,AW J⟩) J (XK [Lib.itoa x]) (by simp;omega)) ?_;rintro v16 _ rfl;refine Za<|Az<|An<|Aa<|Ak ?_;refine Zz [2]<|Az ?_;refine AB ⟨i+1,v16⟩ (by dsimp only;omega) (by dsimp only;omega) ⟨J,J,J,J,trivial⟩ (.cons' 0 J (by rw[A1W,hx];simp[L3]) .nil)
 refine AN<|Ag<|Ag<|Aq<|Aa<|Ai ?_;have hin:i=ns.length:=by simp at c3;omega
 subst hin;simp only[A1T];have hjl:=MG (k:=20) (ns.map Lib.itoa) (by simp;intro a ha;exact RU (hi a ha));simp only[A1S] at hjl;refine Ak<|Zm ?_;refine AL J J (AH en110 J J J (fun w hw=>TV hw (by simp;omega) (by omega))) ?_;rintro _ rfl;refine Zo (Mn (a:=Lib.join (ns.map Lib.itoa) [32]) (b:=[10]) J J J (by simp;omega)) ?_;refine Za<|Zx<|At ?_;refine DN 2 ?_;refine Zh ?_;exact⟨J,J⟩
def Hv(b:Nat)(v:Value)(bs:List UInt8):Chunk:=
 ⟨b::v.ownBlock.toList,fun w=>∃p,(p= .pointer none\/p= Pv b)/\w.heap[b]? =some (.cells #[p,v] 166 (0,0))/\
   w.ownsRow b 5 1 v (Lib.byteCells bs).length (Lib.byteCells bs)/\v.ownBlock≠some b,
  fun w w' h hh=>by
   obtain⟨p,h1,h2,h3,h4⟩:=hh;exact⟨p,h1,(h b (A1m ..)).trans h2,Mo h3 fun g hg=>h g (by rw[hg];simp),h4⟩⟩
theorem P4{b:Nat}{v:Value}{bs:List UInt8}{w:World}(h:(Hv b v bs).holds w):Lib.IsBuilder 166 5 b b (Lib.byteCells bs) w:=by
 obtain⟨p,rfl|rfl,h2,h3,h4⟩:=h
 .exact .inl ⟨A1F _,v,h2,h3,h4⟩
 exact .inr ⟨A1F _,v,h2,h3,h4⟩
section
variable{w0 w w':World}{K:List Nat}{n:Nat}{ds:List Deferred}{E:Env}{L F:List Chunk}{o:Oper}{x:Operand}{v:Value}{b:Nat}{bs s:List UInt8}
theorem Ys(hw:AR w0 K w (AC b 166 #[.pointer none,Nv]::F)):AR w0 K w (Hv b (Nv) []::F):=
 LB (c':=Hv b (Nv) []) (by rfl) (fun w hh=>⟨_,.inl rfl,hh,⟨rfl,.inl ⟨rfl,rfl⟩⟩,by simp[Value.ownBlock]⟩) hw
theorem Wh(hw:AR w0 [] w (Hv b v bs::F))(hb:RowKit.Below b w w'){v':Value}(h:(Hv b v' s).holds w'):AR w0 [] w' [Hv b v' s]:=by
 have hbf:w0.heap.size<=b:=by
  rcases hw.fresh b (by simp[Hv]) with h1|h1
  .simp at h1
  exact h1
 obtain⟨p,h1,h2,h3,h4⟩:=h;refine⟨hb.os.trans hw.os,hb.tape.trans hw.tape,hb.output.trans hw.output,.inl trivial,A2G hw.size hb.size,fun k hk hn=>?_,?_,fun g hg=>.inr ?_,fun g hg=>?_,fun c hc=>?_⟩
 .rw[hb.block k (by omega)];exact hw.old k hk hn
 .simp only[idsOf_cons,idsOf_nil,A1O,Hv,A1Z];refine⟨fun hm=>h4 (by simpa [eq_comm] using hm),?_⟩;cases v'.ownBlock<;>simp
 .simp only[idsOf_cons,idsOf_nil,A1O,Hv,A1H] at hg;rcases hg with rfl|hg
  .exact hbf
  have:=(h3.lt g (by simpa [eq_comm] using hg)).1;omega
 .simp only[idsOf_cons,idsOf_nil,A1O,Hv,A1H] at hg;rcases hg with rfl|hg
  .exact(A1t.1 h2).1
  exact(h3.lt g (by simpa [eq_comm] using hg)).2
 simp at hc;subst hc;exact⟨p,h1,h2,h3,h4⟩
theorem Yq(hw:AR w0 [] w (Hv b v bs::F))(hb:RowKit.Below b w w'):AR w0 [] w' []:=by
 have hbf:w0.heap.size<=b:=by
  rcases hw.fresh b (by simp[Hv]) with h1|h1
  .simp at h1
  exact h1
 exact⟨hb.os.trans hw.os,hb.tape.trans hw.tape,hb.output.trans hw.output,.inl trivial,A2G hw.size hb.size,fun k hk hn=>(hb.block k (by omega)).trans (hw.old k hk hn),by simp,by simp,by simp,by simp⟩
theorem M3(h:(Hv b v bs).holds w):Calls A1c 73 #[Pv b] w (Ret w [] fun u L=>L=[]/\u= Iv bs.length):=by
 refine(Tryz.Builder_Len b b _ w (P4 h)).mono ?_;rintro e w' ⟨rfl,rfl⟩;exact⟨_,[],J,⟨J,by rw[Lib.byteCells_length]⟩,B8 _ _⟩
theorem Vg{ts:Array Nat}{xs:Array Operand}(ho:o.op= .call ⟨.value x,xs,ts⟩)(hx:ev n E x=some (.func (.func 70) #[] #[]))
 (hxs:Vl n E xs.toList=some [Pv b,Jp s])(hL:∀w,AR w0 [] w L->AR w0 [] w (Hv b v bs::F))(hl:bs.length+s.length<=140737488355328):
  SP A1c w0 [] n ds E L o (fun u M=>∃v',M=[Hv b v' (bs++s)]):=by
 intro a w ha hw;have hw1:=hL w hw;have hh:=hw1.holds _ (A1m ..);unfold B1;rw[GG en70 ho ha hx hxs];have hlt:=hw1.lt b (by simp[Hv]);refine Calls.mono (Tryz.Builder_WriteString b b _ ⟨s.toArray⟩ w (P4 hh) (by rw[Lib.byteCells_length];simpa [ByteArray.size] using hl) (by omega)) ?_;rintro e w' ⟨rfl,⟨_,v',h1,h2,h3⟩,hb⟩;have e1:Lib.strCells ⟨s.toArray⟩=Lib.byteCells s:=rfl;rw[e1,<-Lib.byteCells_append] at h2;exact⟨_,J,_,⟨v',J⟩,Wh hw1 hb ⟨_,.inr J,h1,h2,h3⟩⟩
theorem YT{ts:Array Nat}{xs:Array Operand}(ho:o.op= .call ⟨.value x,xs,ts⟩)(hx:ev n E x=some (.func (.func 74) #[] #[]))
 (hxs:Vl n E xs.toList=some [Pv b])(hL:∀w,AR w0 [] w L->AR w0 [] w (Hv b v bs::F)):
  SP A1c w0 [] n ds E L o (fun u M=>u=Jp bs/\M=[]):=by
 intro a w ha hw;have hw1:=hL w hw;have hh:=hw1.holds _ (A1m ..);unfold B1;rw[GG en74 ho ha hx hxs];have hlt:=hw1.lt b (by simp[Hv]);refine Calls.mono (Tryz.Builder_String_any b b bs w (P4 hh) (by omega)) ?_;rintro e w' ⟨rfl,hb⟩;exact⟨_,J,_,⟨J,J⟩,Yq hw1 hb⟩
end
theorem Ik.i64{a:Int}(h:Ik a):Qv a:=by unfold Ik at h;unfold Qv;omega
theorem up25{ls:List (List Int)}(hs:∀l,l∈ls->l.length<=2097152):∀l,l∈ls->l.length<=33554432:=fun l hl=>by have:=hs l hl;omega
theorem RK{ls:List (List Int)}{v:Value}{w:World}{i:Nat}{l:List Int}(hv:IM w v ls)(hl:ls[i]? =some l)(hi:∀a,a∈l->Qv a)(hp:Qh w)(hf:l.length<=2199023255552):
  Calls A1c 72 #[.iface 215 v,Iv i] w (Ret w [] fun v L=>L=[]/\v=Jp (HG l)):=by
 obtain⟨A,cap,rfl,hr,hlc,hcm,hle⟩:=hv;have hlt:=(A1e.1 hl).1;obtain⟨ad,lv,rfl,hc,hs⟩:=hr i l hl;refine cO Tryz.func72 Tryz.ntmps72<|Zs ?_;refine Za<|Zx<|Ai<|Zs ?_;refine Zm<|Zx<|As<|Zs ?_;refine Zo (Fg (v:=.tuple #[.slice (some ad) ls.length cap,.bool true]) J J (fun w=>by kernel_rfl)) ?_;refine Zz [2]<|Zx ?_;refine Bn J<|Zs ?_;refine Za<|Zx<|Zs ?_;refine Zz [2] ?_;refine Zi Tryz.underlying215 ET ?_;refine Zu (AG J J D8 (A7 hc)) ?_;refine AL J J (AH en71 J J J (fun w hw=>I9 (hs.keep0 hw) hi (hp.keep0 hw) hf)) ?_;rintro _ rfl;refine Za<|Zx<|At<|Am<|Ad ?_;refine Zh ?_;exact⟨J,J⟩
theorem RM{es:List Pr}{v:Value}{w:World}{i:Nat}{e:Pr}(hv:DX w v es)(he:es[i]? =some e)(h1:Qv e.1)(h2:Qv e.2)(hp:Qh w):
  Calls A1c 72 #[.iface 216 v,Iv i] w (Ret w [] fun v L=>L=[]/\v=Jp (HG [e.1,e.2])):=by
 obtain⟨A,cap,rfl,hr,hlc,hcm,hle⟩:=hv;have hlt:=(A1e.1 he).1;obtain⟨ad,rfl,hU,hV⟩:=hr.pair he;refine cO Tryz.func72 Tryz.ntmps72<|Zs ?_;refine Za<|Zx<|Ai<|Zs ?_;refine Zm<|Zx<|As<|Zs ?_;refine Zo (Fg (v:=.tuple #[Nv,.bool false]) J J (fun w=>by kernel_rfl)) ?_;refine Zz [2]<|Zx ?_;refine BN J<|Zs ?_;refine Zo (Fg (v:=.tuple #[.slice (some ad) es.length cap,.bool true]) J J (fun w=>by kernel_rfl)) ?_;refine Zz [2]<|Zx ?_;refine Bn J<|Zs ?_;refine Za<|Zx<|Ai ?_;refine Fv 421000010000 13 ?_;refine Yz [2] ?_;refine Yo J (Bz J J J Tryz.underlying216 CF (by omega) (by omega) (by first|exact AX _ _|exact Cm _ _ _|rfl)) ?_;refine Yf T8 ?_;refine Yg ?_ (hh:=by exact(A7 (by rw[add_0];exact hU)));refine Yz [2] ?_;refine Yo J (Bz J J J Tryz.underlying216 CF (by omega) (by omega) (by first|exact AX _ _|exact Cm _ _ _|rfl)) ?_;refine Yf YY ?_;refine Yg ?_ (hh:=by exact(A7 (by rw[Kc _ _ _ (by decide)];exact hV)));refine A8 J J J J (Eo (cs:=#[_,_]) J J A1x Bw C6 J (by decide) (by decide) J J) fun g29=>?_;refine HB (V:=[AC g29 3 #[Iv e.1,Iv e.2]]) J J J J (by kernel_rfl) (AH en71 J J J (fun w hw=>I9 (ns:=[e.1,e.2]) (DZ (g:=g29) hw J J (by decide)) (by simp;exact⟨h1,h2⟩) (hp.keep0 hw) (by simp))) ?_;rintro _ rfl;refine Yz [1] ?_;refine AF J ?_;simp only[zq,zr];refine Aa<|At<|Am<|Ad ?_;refine DN 4 ?_;refine Zh ?_;exact⟨J,J⟩
structure A0e (w0:World) (T:Nat) (v:Value) (letter:List UInt8) (lim:Int) (ok:Prop) (lines:List (List UInt8)):Prop where
 head:∀w L,AR w0 [] w L->Calls A1c 69 #[.iface T v] w (Ret w [] fun r L=>L=[]/\∃b,r= .tuple #[Jp letter,Iv lim,.bool b]/\(b=true↔ok))
 meth:∃fm,BY A1c fm/\(∀w,(method (A1c.types.size+Made.depth) T v "tangram/cert.lines").run A1c w= .ok (fm,v) w)/\∀w,Calls A1c fm #[v] w (Ret w [] fun r L=>L=[]/\r= Iv lines.length)
 line:ok->∀(i:Nat) l,lines[i]? =some l->∀w L,AR w0 [] w L->Calls A1c 72 #[.iface T v,Iv i] w (Ret w [] fun r L=>L=[]/\r=Jp l)
 few:lines.length<=17592186044416
 one:letter.length=1
 small:ok->∀l,l∈lines->l.length<=1099511627776
def K3(letter:List UInt8)(n:Nat):List UInt8:=(letter++[32])++HG [(n:Int)]
def IQ(letter:List UInt8)(lines:List (List UInt8)):List UInt8:=K3 letter lines.length++lines.flatten
theorem Iz{letter:List UInt8}{n:Nat}(h1:letter.length=1)(hn:n<=17592186044416):(K3 letter n).length<=100:=by
 have:=Iw (ns:=[(n:Int)]) (by simp;unfold Qv;omega);simp[K3,h1] at this ⊢;omega
theorem Hn{l:List (List UInt8)}{i:Nat}{x:List UInt8}(h:l[i]? =some x):(l.take (i+1)).flatten=(l.take i).flatten++x:=by
 rw[A1W,h];simp
theorem T6(l:List (List UInt8))(i:Nat):(l.take i).flatten.length<=l.flatten.length:=by
 conv=>rhs;rw[<-A3s i l]
 rw[List.flatten_append,A1V];omega
structure PrintI where
 i:Nat
 v:Value
theorem Mj{c v:Value}{w:World}{T:Nat}{is:Bool}{letter:List UInt8}{lim:Int}{ok:Prop}{lines:List (List UInt8)}{cs:Array Value}(hc:c= .agg cs)(hcs:∃x y z,cs=#[x,y,z]/\x.oneCell'=true/\y.oneCell'=true/\z.oneCell'=true)
 (hfo:∀w,Calls A1c 68 #[c] w (Ret w [] fun r L=>L=[]/\r= .tuple #[.iface T v,.bool is]))(hF:A0e w T v letter lim ok lines)(hp:Qh w):
  Calls A1c 30 #[c] w (Ret w [] fun r L=>L=[]/\∃s e,r= .tuple #[Jp s,Iv e]/\
   ((e=0/\is=true/\ok/\(IQ letter lines).length<=33554432/\s=IQ letter lines)\/(e=170/\¬(is=true/\ok)/\s=[])\/(e=10/\is=true/\ok/\33554432<(IQ letter lines).length/\s=[]))):=by
 subst hc;obtain⟨x,y,z,rfl,x1,y1,z1⟩:=hcs;obtain⟨fm,hfm,hme,hln⟩:=hF.meth;have hfew:=hF.few;have hhl:=Iz hF.one hfew;refine cO Tryz.func30 Tryz.ntmps30<|Zs ?_;refine Zw (HE (cs:=#[x,y,z]) J J (ZI x1 y1 z1)) fun g1=>?_;refine Zz [2]<|Zx<|Zs ?_;refine CR [_,_,_] ?_;refine AL J J (AH en68 J J J (fun w hw=>hfo w)) ?_;rintro _ rfl;refine Zz [5]<|Zx<|Ai<|Zs ?_;refine Zz [2]<|Zx ?_;refine Zd ?_ ?_<;>intro c2
 .refine Zs<|Zz [2]<|Zx<|At<|Ad ?_;refine Lm 2 3 ?_;refine Bq (.inl J) J J J ?_;exact⟨J,[],170,J,.inr (.inl ⟨J,by simp at c2;simp[c2],J⟩)⟩
 refine Ao<|Aa<|Zs<|Zm ?_;refine AL J J (AH en69 J J J (fun w hw=>hF.head w _ hw)) ?_;rintro _ ⟨b,rfl,hb⟩;refine Zz [7]<|Zx<|Ai<|Zs ?_;refine Zz [2]<|Zx ?_;refine Zd ?_ ?_<;>intro c5
 .refine Zs<|Zz [2]<|Zx<|At<|Ad ?_;refine Lm 2 3 ?_;refine Bq (.inl J) J J J ?_;exact⟨J,[],170,J,.inr (.inl ⟨J,by simp at c5;simp[<-hb,c5],J⟩)⟩
 refine Ao<|Aa<|Zs ?_;refine ZA ze166 fun g9=>Zx<|Zs ?_;refine Zm ?_;refine Zo (Mn (a:=letter) (b:=[32]) J J J (by rw[hF.one];decide)) ?_;refine Zm ?_;refine Bk J J (Q9 hfm J J hme (fun w hw=>hln w)) ?_;rintro _ _ ⟨rfl,rfl⟩;refine ZL #[_] A1x Bw C6 fun g30=>?_;refine AL J J (AH en71 J J J (fun w hw=>I9 (ns:=[(lines.length:Int)]) (DZ (g:=g30) hw J J (by decide)) (by simp;unfold Qv;omega) (hp.keep0 hw) (by simp))) ?_;rintro _ rfl;refine Zo (Mn (a:=letter++[32]) (b:=HG [(lines.length:Int)]) J J J (by have:=hhl;simp[K3] at this ⊢;omega)) ?_;refine AU J J (Vg J J J (fun w hw=>Ys (hw.pick (BC .nil))) (by have:=hhl;simp[K3] at this ⊢;omega)) ?_;rintro _ _ ⟨v9,rfl⟩;refine Zx<|Ai<|Zs<|Zm ?_;refine Bk J J (Q9 hfm J J hme (fun w hw=>hln w)) ?_;rintro _ _ ⟨rfl,rfl⟩;refine Zm<|Zx<|As ?_;have hc2:is=true:=by simpa using c2
 have hc5:ok:=hb.1 (by simpa using c5);refine AS (ι:=PrintI) (fun j=>j.i<=lines.length/\(K3 letter lines.length++(lines.take j.i).flatten).length<=33554432)
  (fun j=>[(4,.iface T v),(9,Pv g9),(35,Iv lines.length),(36,Iv j.i)])
  (fun j=>[Hv g9 j.v (K3 letter lines.length++(lines.take j.i).flatten)]) (fun j=>lines.length-j.i) ⟨0,v9⟩ ⟨A1E _,by simp;omega⟩ ⟨J,J,J,J,trivial⟩ (.cons' 0 J (by simp[K3]) .nil) ?_;rintro⟨i,vi⟩ ⟨hi,hle⟩;dsimp only at hi hle ⊢;refine Zs<|Zc<|Zx<|Ai ?_;refine Zd ?_ ?_<;>intro c10
 .have hlt:i<lines.length:=by simpa using c10
  obtain⟨l,hl⟩:∃l,lines[i]? =some l:=⟨_,A1d hlt⟩;have hsm:=hF.small hc5 l (A1h hl);refine Ao<|Aa<|Ai<|As<|Zs<|Zz [2]<|Zx<|Zs ?_;refine Zz [2] ?_;refine AL J J (AH en72 J J J (fun w hw=>hF.line hc5 i l hl w _ hw)) ?_;rintro _ rfl;refine AU J J (Vg J J J (fun w hw=>hw) (by omega)) ?_;rintro _ _ ⟨v42,rfl⟩;refine Zx<|Zs ?_;refine AL J J (AH en73 J J J (fun w hw=>M3 (hw.holds _ (A1m ..)))) ?_;rintro _ rfl;refine Zz [1]<|Zx ?_;refine Zd ?_ ?_<;>intro c13
  .refine Zs<|Zz [2]<|Zx<|At<|Am<|Ad<|Ad<|Am<|Ad ?_;refine Lm 2 3 ?_;refine Bq (.inl J) J J J ?_;refine⟨J,[],10,J,.inr (.inr ⟨J,hc2,hc5,?_,J⟩)⟩;have:=T6 lines (i+1);rw[Hn hl] at this;simp at c13;simp[IQ] at c13 this ⊢;omega
  refine Ao<|An<|Aa<|Ak<|Zz [2]<|Az ?_;refine AB ⟨i+1,v42⟩ (by dsimp only;omega) ⟨by dsimp only;omega,?_⟩ ⟨J,J,J,J,trivial⟩ (.cons' 0 J (by dsimp only;rw[Hn hl,A1L]) .nil);dsimp only;rw[Hn hl,<-A1L];simp only[decide_eq_false_iff_not] at c13;omega
 refine AN<|Ag<|Ag<|Aq<|Aa<|Ai<|Ai ?_;have hin:i=lines.length:=by simp at c10;omega
 subst hin;rw[A1T] at hle ⊢;refine Ak ?_;refine AL J J (AH en73 J J J (fun w hw=>M3 (hw.holds _ (A1m ..)))) ?_;rintro _ rfl;refine Zz [1]<|Zx ?_;refine Zd ?_ ?_<;>intro c16
 .refine Zs<|Zz [2]<|Zx<|At<|Ad ?_;refine Lm 2 3 ?_;refine Bq (.inl J) J J J ?_;exact⟨J,[],10,J,.inr (.inr ⟨J,hc2,hc5,by simp only[decide_eq_true_eq] at c16;unfold IQ;omega,J⟩)⟩
 refine Ao<|Aa<|Zs ?_;refine AU J J (YT J J J (fun w hw=>hw)) ?_;rintro _ _ ⟨rfl,rfl⟩;refine Zz [2]<|Zx<|At ?_;refine Lm 2 3 ?_;refine Bq (.inl J) J J J ?_;exact⟨J,_,0,J,.inl ⟨J,hc2,hc5,hle,J⟩⟩
/-! ### the certificate's text -/
def IE(pl:Bool)(ls:List (List Int))(es:List Pr):Prop:=if pl then es=[]/\Kg ls else ls=[]/\FK es
def K5(pl:Bool)(ls:List (List Int))(es:List Pr):List UInt8:=if pl then IQ [112] (ls.map HG) else IQ [110] (es.map fun e=>HG [e.1,e.2])
theorem Kg.fits{ls:List (List Int)}(h:Kg ls){l:List Int}(hl:l∈ls){a:Int}(ha:a∈l):Ik a:=by
 obtain⟨i,hi⟩:=A1j.1 hl;obtain⟨j,hj⟩:=A1j.1 ha;obtain⟨b,hb⟩:∃b,l[0]? =some b:=⟨_,A1d (by have:=(A1e.1 hj).1;omega)⟩;exact(h.2 i l hi j a b hj hb).1
theorem formL{ls:List (List Int)}{v:Value}{w:World}(hv:IM w v ls)(hp:Qh w)(hs:∀l,l∈ls->l.length<=33554432):A0e w 215 v [112] 1048576 (Kg ls) (ls.map HG):=by
 refine⟨fun w' L hw=>RX ls v w' (hv.keep0 hw),?_,?_,?_,J,?_⟩
 .obtain⟨A,cap,rfl,_,_,_,hle⟩:=hv;refine⟨212,en212,fun w=>by kernel_rfl,fun w=>?_⟩;rw[A1S];exact PF A _ cap w
 .intro hok i l hl w' L hw;simp only[A1U,A2o] at hl;obtain⟨l',hl',rfl⟩:=hl;have hm:=A1h hl';exact RK (hv.keep0 hw) hl' (fun a ha=>(hok.fits hm ha).i64) (hp.keep0 hw) (by have:=hs l' hm;omega)
 .obtain⟨A,cap,rfl,_,_,_,hle⟩:=hv;simpa using hle
 intro hok l hl;simp only[A1G] at hl;obtain⟨l',hm,rfl⟩:=hl;have:=Iw (ns:=l') (fun a ha=>(hok.fits hm ha).i64);have:=hs l' hm;omega
theorem formE{es:List Pr}{v:Value}{w:World}(hv:DX w v es)(hp:Qh w):A0e w 216 v [110] 4194304 (FK es) (es.map fun e=>HG [e.1,e.2]):=by
 have i64:∀{e:Pr},FK es->e∈es->Qv e.1/\Qv e.2:=fun hok hm=>by
  obtain⟨i,hi⟩:=A1j.1 hm;have:=hok.ok i _ hi;exact⟨this.1.i64,this.2.1.i64⟩
 refine⟨fun w' L hw=>RY es v w' (hv.keep0 hw),?_,?_,?_,J,?_⟩
 .obtain⟨A,cap,rfl,_,_,_,hle⟩:=hv;refine⟨213,en213,fun w=>by kernel_rfl,fun w=>?_⟩;rw[A1S];exact PW A _ cap w
 .intro hok i l hl w' L hw;simp only[A1U,A2o] at hl;obtain⟨e,he,rfl⟩:=hl;have hm:=i64 hok (A1h he);exact RM (hv.keep0 hw) he hm.1 hm.2 (hp.keep0 hw)
 .obtain⟨A,cap,rfl,_,_,_,hle⟩:=hv;simp;omega
 intro hok l hl;simp only[A1G] at hl;obtain⟨e,hm,rfl⟩:=hl;have h2:=i64 hok hm;have:=Iw (ns:=[e.1,e.2]) (by simp;exact h2);simp at this;omega
theorem SN{pl:Bool}{ls:List (List Int)}{es:List Pr}{v u:Value}{w:World}(hv:IM w v ls)(hu:DX w u es)(hp:Qh w)(hs:∀l,l∈ls->l.length<=33554432):
  Calls A1c 30 #[.agg #[.bool pl,v,u]] w (Ret w [] fun r L=>L=[]/\∃s e,r= .tuple #[Jp s,Iv e]/\
   ((e=0/\IE pl ls es/\(K5 pl ls es).length<=33554432/\s=K5 pl ls es)\/(e=170/\¬IE pl ls es/\s=[])\/(e=10/\IE pl ls es/\33554432<(K5 pl ls es).length/\s=[]))):=by
 obtain⟨A,cap,ev,_⟩:=id hv;obtain⟨B,cap',eu,_⟩:=id hu;have hfo:=fun w=>PT pl A B ls.length es.length cap cap' w;rw[<-ev,<-eu] at hfo;have hcs:∃x y z,#[Value.bool pl,v,u]=#[x,y,z]/\x.oneCell'=true/\y.oneCell'=true/\z.oneCell'=true:=⟨_,_,_,rfl,rfl,by rw[ev];rfl,by rw[eu];rfl⟩;unfold IE K5;cases pl with
 | true=>
  simp only[if_true] at hfo ⊢;have:=Mj rfl hcs hfo (formL hv hp hs) hp;simpa [A3l,and_assoc] using this
 | false=>
  simp only[A2u,if_false] at hfo ⊢;have:=Mj rfl hcs hfo (formE hu hp) hp;simpa [A3l,and_assoc] using this
def Gc(p:Nat->Nat)(a x:Nat):Nat->Nat:=fun i=>if i=a then x else p i
def IN(p:Nat->Nat):Prop:=∀x,p x<=x
def rt(p:Nat->Nat)(a:Nat):Nat:=if p a<a then rt p (p a) else a
termination_by a
theorem QV(p:Nat->Nat):∀a,rt p a<=a:=by
 intro a
 induction a using Nat.strongRecOn with
 | _ a ih=>
  rw[rt];split
  .rename_i h;exact A2G (ih _ h) (Nat.le_of_lt h)
  exact A1F _
theorem Tm{p:Nat->Nat}(hp:IN p):∀a,p (rt p a)=rt p a:=by
 intro a
 induction a using Nat.strongRecOn with
 | _ a ih=>
  rw[rt];split
  .rename_i h;exact ih _ h
  have:=hp a;omega
theorem JB{p:Nat->Nat}{a:Nat}(h:p a=a):rt p a=a:=by rw[rt,if_neg (by omega)]
theorem A0J{p:Nat->Nat}(hp:IN p)(a:Nat):rt p (rt p a)=rt p a:=JB (Tm hp a)
theorem JA{p:Nat->Nat}(hp:IN p)(a:Nat):rt p (p a)=rt p a:=by
 rw[rt.eq_1 p a];split
 .rfl
 have:=hp a;have:p a=a:=by omega
 rw[this];exact JB this
theorem Sh{p:Nat->Nat}(hp:IN p){a x:Nat}(h:x<=a):IN (Gc p a x):=by
 intro i;unfold Gc;split
 .omega
 exact hp i
theorem A0K{p:Nat->Nat}(hp:IN p)(a:Nat):∀x,rt (Gc p a (p (p a))) x=rt p x:=by
 intro x
 induction x using Nat.strongRecOn with
 | _ x ih=>
  rw[rt.eq_1 (Gc p a (p (p a))) x];by_cases hx:x=a
  .subst hx;have e:Gc p x (p (p x)) x=p (p x):=by simp[Gc]
   rw[e];split
   .rename_i h;rw[ih _ h,JA hp,JA hp]
   rename_i h;have h1:=hp (p x);have h2:=hp x;have:p x=x:=by omega
   rw[JB this]
  have e:Gc p a (p (p a)) x=p x:=by simp[Gc,hx]
  rw[e];split
  .rename_i h;rw[ih _ h,JA hp]
  rename_i h;have:=hp x;rw[JB (by omega)]
theorem A0I{p:Nat->Nat}(hp:IN p){x y:Nat}(hx:p x=x)(hy:p y=y)(h:x<y):∀z,rt (Gc p y x) z=if rt p z=y then x else rt p z:=by
 intro z
 induction z using Nat.strongRecOn with
 | _ z ih=>
  rw[rt.eq_1 (Gc p y x) z];by_cases hz:z=y
  .subst hz;have e:Gc p z x z=x:=by simp[Gc]
   rw[e,if_pos h,ih x h,JB hx,JB hy,if_pos rfl,if_neg (by omega)]
  have e:Gc p y x z=p z:=by simp[Gc,hz]
  rw[e];split
  .rename_i h1;rw[ih _ h1,JA hp]
  rename_i h1;have:=hp z;have e2:rt p z=z:=JB (by omega);rw[e2,if_neg hz]
inductive Dx (es:List Pr):Nat->Nat->Prop
 | refl (a:Nat):Dx es a a
 | edge (u v:Nat) (h:((u:Int),(v:Int))∈es):Dx es u v
 | symm {a b:Nat} (h:Dx es a b):Dx es b a
 | trans {a b c:Nat} (h:Dx es a b) (k:Dx es b c):Dx es a c
theorem Dx.mono{es fs:List Pr}(h:∀e,e∈es->e∈fs){a b:Nat}(c:Dx es a b):Dx fs a b:=by
 induction c with
 | refl a=>exact .refl a
 | edge u v h'=>exact .edge u v (h _ h')
 | symm _ ih=>exact .symm ih
 | trans _ _ ih1 ih2=>exact .trans ih1 ih2
def GR(es:List Pr)(r:Nat->Nat):Prop:=∀a b,r a=r b↔Dx es a b
theorem Wc:GR [] (fun a=>a):=by
 intro a b;constructor
 .rintro rfl;exact .refl _
 intro h
 induction h with
 | refl a=>rfl
 | edge u v h=>simp at h
 | symm _ ih=>exact ih.symm
 | trans _ _ ih1 ih2=>exact ih1.trans ih2
theorem KY{es:List Pr}{r s:Nat->Nat}(h:∀x,r x=s x)(hr:GR es r):GR es s:=by
 intro a b;rw[<-h,<-h];exact hr a b
theorem Tv{es:List Pr}{r:Nat->Nat}(hr:GR es r){u v:Nat}(h:r u=r v):GR (es++[((u:Int),(v:Int))]) r:=by
 intro a b;constructor
 .intro hab;exact((hr a b).1 hab).mono (by simp +contextual)
 intro c
 induction c with
 | refl a=>rfl
 | edge x y hxy=>
  rw[A1C] at hxy;rcases hxy with hxy|hxy
  .exact(hr x y).2 (.edge x y hxy)
  simp at hxy;obtain⟨h1,h2⟩:=hxy;have h1:x=u:=by omega
  have h2:y=v:=by omega
  subst h1 h2;exact h
 | symm _ ih=>exact ih.symm
 | trans _ _ ih1 ih2=>exact ih1.trans ih2
theorem Tw{es:List Pr}{r s:Nat->Nat}(hr:GR es r){u v lo hi:Nat}(hs:∀z,s z=if r z=hi then lo else r z)(huv:(r u=lo/\r v=hi)\/(r u=hi/\r v=lo)):
  GR (es++[((u:Int),(v:Int))]) s:=by
 have hmono:∀{a b},Dx es a b->Dx (es++[((u:Int),(v:Int))]) a b:=fun c=>c.mono (by simp +contextual);have hnew:Dx (es++[((u:Int),(v:Int))]) u v:=.edge u v (by simp)
 -- a number of the one set, and one of the other
 have cross:∀{a b},r a=hi->r b=lo->Dx (es++[((u:Int),(v:Int))]) a b:=by
  intro a b ha hb;rcases huv with⟨h1,h2⟩|⟨h1,h2⟩
  .exact(hmono ((hr a v).1 (ha.trans h2.symm))).trans (hnew.symm.trans (hmono ((hr u b).1 (h1.trans hb.symm))))
  exact(hmono ((hr a u).1 (ha.trans h1.symm))).trans (hnew.trans (hmono ((hr v b).1 (h2.trans hb.symm))))
 intro a b;constructor
 .intro hab;rw[hs,hs] at hab;split at hab
  .rename_i ha;split at hab
   .rename_i hb;exact hmono ((hr a b).1 (ha.trans hb.symm))
   exact cross ha hab.symm
  split at hab
  .rename_i hb;exact(cross hb hab).symm
  exact hmono ((hr a b).1 hab)
 intro c
 induction c with
 | refl a=>rfl
 | edge x y hxy=>
  rw[A1C] at hxy;rcases hxy with hxy|hxy
  .rw[hs,hs,(hr x y).2 (.edge x y hxy)]
  simp at hxy;obtain⟨h1,h2⟩:=hxy;have h1:x=u:=by omega
  have h2:y=v:=by omega
  subst h1 h2;rw[hs,hs];rcases huv with⟨h1,h2⟩|⟨h1,h2⟩<;>rw[h1,h2]<;>simp
 | symm _ ih=>exact ih.symm
 | trans _ _ ih1 ih2=>exact ih1.trans ih2
def Qs(p:Nat->Nat):Nat->Int:=fun i=>(p i:Int)
theorem U3(p:Nat->Nat)(a x:Nat):upd (Qs p) a (x:Int)=Qs (Gc p a x):=by
 funext i;unfold upd Qs Gc;split<;>rfl
structure UfI where
 a:Nat
 p:Nat->Nat
theorem I1{g n a:Nat}{p:Nat->Nat}{w:World}(hO:AR w [g] w [AC g 3 (AA (BA n (Qs p))).toArray])(hp:IN p)(ha:a<n)(hn:n<=1048576):
  Calls A1c 174 #[Sv g n,Iv a] w
   (Ret w [g] fun v M=>v= Iv (rt p a)/\∃q,IN q/\(∀x,rt q x=rt p x)/\M=[AC g 3 (AA (BA n (Qs q))).toArray]):=by
 refine BO (args:=[_,_]) Tryz.func174 J Tryz.ntmps174 J hO<|Zs ?_;refine Za<|Zx<|Ai<|As ?_;refine AS (ι:=UfI) (fun j=>j.a<n/\IN j.p/\(∀x,rt j.p x=rt p x)/\rt p j.a=rt p a)
  (fun j=>[(0,Sv g n),(1,Iv j.a)]) (fun j=>[AC g 3 (AA (BA n (Qs j.p))).toArray]) (fun j=>j.a) ⟨a,p⟩ ⟨ha,hp,fun _=>rfl,J⟩ ⟨J,J,trivial⟩ (Bg .nil) ?_;rintro⟨b,q⟩ ⟨hb,hq,hqr,hba⟩;dsimp only at hb hq hqr hba ⊢;have hqb:=hq b;refine Ai<|Zs<|Zz [3] ?_;refine Zu (AG J J CA (AK (BB hb))) ?_;refine Zz [2]<|Zx ?_;refine Zd ?_ ?_<;>intro c1
 .have hne:q b≠b:=fun e=>by simp[Qs,e] at c1
  have hqq:=hq (q b);refine Ao<|Aa<|As<|Zs<|Zz [6] ?_;refine Zu (AG J J CA (AK (BB hb))) ?_;refine Zo (B4 (ad':=⟨g,q b,none⟩) J J J Tryz.underlying273 Bw (by simp[Qs]) (by simp[Qs];omega) (by rw[AX];rfl)) ?_;refine Zu (AG J J CA (AK (BB (i:=q b) (by omega)))) ?_;refine Zz [1] ?_;refine Zy (AP J J J Bw J (by simp;omega) BU)<|Az ?_;refine AZ (E':=[(0,Sv g n),(1,Iv b)]) (L':=[AC g 3 (AA (BA n (Qs (Gc q b (q (q b)))))).toArray]) ⟨J,J,trivial⟩ (.cons' 0 J (by rw[<-U3];rfl) .nil) ?_;have hq2:=Sh hq (a:=b) (x:=q (q b)) (by omega);have hr2:=A0K hq b;have hb2:Gc q b (q (q b)) b=q (q b):=by simp[Gc]
  generalize Gc q b (q (q b))=q' at hq2 hr2 hb2 ⊢;refine Aa<|Ak<|Zz [3] ?_;refine Zu (AG J J CA (AK (BB hb))) ?_;refine Za<|Az<|An ?_;refine AB ⟨q' b,q'⟩ (by dsimp only;omega) ⟨by dsimp only;omega,hq2,fun x=>(hr2 x).trans (hqr x),?_⟩ ⟨J,J,trivial⟩ (Bg .nil);dsimp only;rw[<-hqr,<-hr2,JA hq2,hr2,hqr,hba]
 refine AN<|Ag<|Ag<|Aq<|Aa<|Zs<|Zz [2]<|Zx<|At ?_;refine Zh ?_;refine⟨?_,q,hq,hqr,J⟩;have h9:=Decidable.not_not.1 (of_decide_eq_false c1);have:q b=b:=Int.ofNat.inj h9;rw[<-hba,<-hqr,JB this]
theorem RR{A:Option Addr}{n cap:Nat}{a:Int}{w:World}:Calls A1c 183 #[.slice A n cap,Iv a] w (Ret w [] fun v L=>L=[]/\v= .bool (decide (0<=a/\a<n))):=by
 refine cO Tryz.func183 Tryz.ntmps183<|Zs ?_;refine Za<|Zx<|Zs ?_;refine Zz [3] ?_;refine AM 7 J (fun k1_2=>?_) (fun k1_2=>?_)
 .refine Zz [6]<|Zx<|At ?_;refine Zh ?_;refine⟨J,?_⟩
  simp_all
  try omega
 refine Zz [6]<|Zx<|At ?_;refine Zh ?_;refine⟨J,?_⟩
 simp_all
 try omega
def Fe(gp g1 g2 n:Nat)(p:Nat->Nat)(sz:List Int)(c:Int):List Chunk:=
 [AC gp 275 #[Sv g1 n,Sv g2 n,Iv c],AC g1 3 (AA (BA n (Qs p))).toArray,AC g2 3 (AA sz).toArray]
theorem Ou{gp g1 g2 n:Nat}{p:Nat->Nat}{sz:List Int}{c a:Int}{w0 w:World}{K:List Nat}(hO:AR w0 K w (Fe gp g1 g2 n p sz c)):
  Calls A1c 173 #[Pv gp,Iv a] w (Ret w [] fun v L=>L=[]/\v= .bool (decide (0<=a/\a<n))):=by
 have hb:=hO.holds _ (A1m ..);refine cO Tryz.func173 Tryz.ntmps173<|Zs ?_;refine Za<|Zx<|Zs ?_;refine Zm ?_;refine Zo (We J J J Tryz.underlying258) ?_;refine Zm ?_;refine AM 7 J (fun k1_2=>?_) (fun k1_2=>?_)
 .refine Zz [3] ?_;refine Zu (AG J J VB (Bh hb J)) ?_;refine Zm ?_;refine AL J J (AH en183 J J J (fun w hw=>RR)) ?_;rintro _ rfl;refine Zz [2]<|Zx<|At ?_;refine Zh ?_;exact⟨J,J⟩
 simp at k1_2 --closed
theorem Uy{gp g1 g2 n u v:Nat}{p:Nat->Nat}{sz:List Int}{c:Int}{es:List Pr}{w:World}(hO:AR w (AY (Fe gp g1 g2 n p sz c)) w (Fe gp g1 g2 n p sz c))(hp:IN p)(hu:u<n)(hv:v<n)(hn:n<=1048576)(hs:sz.length=n)
 (hP:GR es (rt p)):
  Calls A1c 147 #[.pointer (some ⟨gp,0,none⟩),.int .i64 u,.int .i64 v] w (Ret w (AY (Fe gp g1 g2 n p sz c)) fun r M=>
   ∃q sz' c',IN q/\sz'.length=n/\GR (es++[((u:Int),(v:Int))]) (rt q)/\M=Fe gp g1 g2 n q sz' c'):=by
 refine BO (args:=[_,_,_]) Tryz.func147 J Tryz.ntmps147 J hO ?_;unfold Fe;refine Zs<|Za<|Zx<|Ai<|Zs ?_;refine Zz [2] ?_;refine AL J J (AH en173 J J J (fun w hw=>Ou hw)) ?_;rintro _ rfl;refine Zz [2] ?_;refine AM 13 J (fun k1_4=>?_) (fun k1_4=>?_)
 .refine Zz [5]<|Zx ?_;refine Bn J<|Zs ?_;refine Za<|Zx<|At<|Ad ?_;refine Zh ?_;simp at k1_4;omega
 refine Zz [2] ?_;refine AL J J (AH en173 J J J (fun w hw=>Ou hw)) ?_;rintro _ rfl;refine Zz [2]<|Zx ?_;refine Zd ?_ ?_<;>intro c1
 .refine Zs<|Za<|Zx<|At<|Ad ?_;refine Zh ?_;simp at c1;omega
 refine Ao<|Aa<|Ai ?_;let ca:=AC gp 275 #[.slice (some ⟨g1,0,none⟩) n n,.slice (some ⟨g2,0,none⟩) n n,.int .i64 c];refine Fw 300000300000 (od 14) ([ca]) (fun w hw=>hw.pick (.cons 0 J .nil)) ?_;refine Yz [3] ?_;refine BG J J J (AG J J VB (B0 J)) ?_;refine Ym ?_;refine BF.gen0 J J J J (BT Y2 J J J (Lc:=[AC g1 3 (AA (BA n (Qs p))).toArray]) (F:=[ca,AC g2 3 (AA sz).toArray]) (.swap _ _ _) (fun k hk=>by simpa [AC] using hk)
  (fun w hw=>I1 (hw.pick (.cons 1 rfl .nil)).self hp hu hn)) (fun v L' hC w hw=>by obtain⟨_,⟨_,q,_,_,rfl⟩,rfl⟩:=hC;exact hw.pick (.cons 1 rfl .nil)) ?_;rintro _ _ ⟨_,⟨rfl,q,hq,hqr,rfl⟩,rfl⟩;simp only[zs];refine Yz [3] ?_;refine BG J J J (AG J J VB (B0 J)) ?_;refine Ym ?_;refine BF.gen0 J J J J (BT Y2 J J J (Lc:=[AC g1 3 (AA (BA n (Qs q))).toArray]) (F:=[ca,AC g2 3 (AA sz).toArray]) (.refl _) (fun k hk=>by simpa [AC] using hk)
  (fun w hw=>I1 (hw.pick (.cons 0 rfl .nil)).self hq hv hn)) (fun v L' hC w hw=>by obtain⟨_,⟨_,q,_,_,rfl⟩,rfl⟩:=hC;exact hw.pick (.cons 1 rfl .nil)) ?_;rintro _ _ ⟨_,⟨rfl,q2,hq2,hqr2,rfl⟩,rfl⟩;simp only[zs];refine Yz [2] ?_;refine AF J ?_;simp only[zq,zr];have hux:=QV p u;have hvx:=QV q v;have h2u:rt q2 u=rt p u:=by rw[hqr2,hqr]
 have h2v:rt q2 v=rt q v:=hqr2 v;have hxx:q2 (rt p u)=rt p u:=by rw[<-h2u];exact Tm hq2 u
 have hyy:q2 (rt q v)=rt q v:=by rw[<-h2v];exact Tm hq2 v
 have hP2:GR es (rt q2):=KY (fun z=>by rw[hqr2,hqr]) hP;generalize rt p u=x at hux h2u hxx ⊢;generalize rt q v=y at hvx h2v hyy ⊢;refine Aa<|Ai<|Zs<|Zz [3]<|Zx ?_;refine Zd ?_ ?_<;>intro c4
 .refine Zs<|Za<|Zx<|At<|Ad ?_;refine AZ (E':=[(6,_)]) ⟨J,trivial⟩ (.cons 1 J (.cons 0 J (.cons 0 J .nil))) ?_;refine Zh ?_;have hxy:x=y:=by simp at c4;omega
  exact⟨q2,sz,c,hq2,hs,Tv hP2 (by rw[h2u,h2v,hxy]),J⟩
 refine Ao<|Aa<|Zs<|Zz [2] ?_;refine Zo (Ob J J J) ?_;refine Zz [2] ?_;refine Zo (Rk J J J) ?_;refine Zz [2]<|Zx<|Ai ?_;have hxy:x≠y:=by simp at c4;omega
 obtain⟨lo,hlo⟩:∃lo,lo=min x y:=⟨_,rfl⟩;obtain⟨hi,hhi⟩:∃hi,hi=max x y:=⟨_,rfl⟩;have e7:min (x:Int) (y:Int)=(lo:Int):=by omega
 have e8:max (x:Int) (y:Int)=(hi:Int):=by omega
 rw[e7,e8];have hlt:lo<hi:=by omega
 have hhn:hi<n:=by omega
 have hlx:q2 lo=lo:=by rcases(show lo=x\/lo=y by omega) with h|h<;>rw[h]<;>assumption
 have hhx:q2 hi=hi:=by rcases(show hi=x\/hi=y by omega) with h|h<;>rw[h]<;>assumption
 have hj:=A0I hq2 hlx hhx hlt;have hsel:(rt q2 u=lo/\rt q2 v=hi)\/(rt q2 u=hi/\rt q2 v=lo):=by rw[h2u,h2v];omega
 obtain⟨s1,hs1⟩:∃s,sz[lo]? =some s:=⟨_,A1d (by omega)⟩;obtain⟨s2,hs2⟩:∃s,sz[hi]? =some s:=⟨_,A1d (by omega)⟩;refine Ak<|Zz [3,3] ?_;refine Zy (AP (cs':=(AA (BA n (Qs (Gc q2 hi lo)))).toArray) J J J Bw J (by simp;omega) (by rw[<-U3];exact BU))<|Zx<|Ai ?_;refine Fw 30010000001000000 (od 17) ([ca]) (fun w hw=>hw.pick (.cons 1 J .nil)) ?_;refine Yz [3] ?_;refine BG J J J (AG J J D8 (B0 J)) ?_;refine Ym ?_;refine Yo J (B4 J J J A1x Bw (by omega) (by omega) (by first|exact AX _ _|exact Cm _ _ _|rfl)) ?_;refine Yh (AK (Br hs1)) ?_;refine Yz [3] ?_;refine BG J J J (AG J J D8 (B0 J)) ?_;refine Ym ?_;refine Yo J (B4 J J J A1x Bw (by omega) (by omega) (by first|exact AX _ _|exact Cm _ _ _|rfl)) ?_;refine Yh (AK (Br hs2)) ?_;refine Yo J (Px J J J) ?_;refine Yo J (B4 J J J A1x Bw (by omega) (by omega) (by first|exact AX _ _|exact Cm _ _ _|rfl)) ?_;refine AO J J J J (AP (cs':=(AA (sz.set lo (IntKind.i64.wrap (s1+s2)))).toArray) J J J Bw J (by simp;omega) BP) (fun w hw=>hw.pick (.cons 1 J .nil)) ?_;refine AF J ?_;simp only[zq,zr];refine Aa<|Zs<|Zz [3,0] ?_;refine Zo (Yc J J J) ?_;refine Zz [2] ?_;refine Jj #[_,_,_]<|Zx<|Zs ?_;refine Za<|Zx<|At ?_;refine AZ (E':=[(6,_)]) ⟨J,trivial⟩ (.cons 1 J (.cons 0 J (.cons 0 J .nil))) ?_;refine Zh ?_;exact⟨Gc q2 hi lo,_,_,Sh hq2 (by omega),by simp[hs],Tw hP2 hj hsel,J⟩
def flt(v e:Int):Value:=.iface 222 (.agg #[Iv v,Iv e])
theorem CH(is:Bool)(v e:Int)(w:World):
  Calls A1c 77 #[.bool is,Iv v,Iv e] w (Nd w [] (fun r M=>M=[]/\is=true) (fun pv M=>M=[]/\pv=flt v e/\is=false)):=by
 refine FP (K:=[]) (args:=[_,_,_]) (L:=[]) Tryz.func77 J Tryz.ntmps77 J (B8 _ _)<|Zs ?_;refine Zz [2]<|Zx ?_;refine Zd ?_ ?_<;>intro c0
 .refine Ak<|Zz [2] ?_;refine ZS #[_,_] bs222 ?_;refine Zo (I4 (v:=flt v e) J J (fun w=>by kernel_rfl)) ?_;refine CN.panic J J J ?_;exact BR ⟨J,J,by simpa using c0⟩
 refine Ao ?_;refine Ga (.inr J) (BQ (.inr J) J ⟨J,by simpa using c0⟩)
theorem PY{v e:Int}{x y:Value}{ga gb:Nat}{w:World}(hO:AR w [ga,gb] w [AC ga 3 #[x],AC gb 29 #[y]]):
  CallsD A1c 111 #[Pv ga,Pv gb] (.panicking (F1 (flt v e))) w
   fun e' u' w'=>u'= .panicking [{ v:=flt v e,recovered:=true }]/\Ret w [ga,gb] (fun r M=>M=[AC ga 3 #[Iv v],AC gb 29 #[Iv e]]) e' w':=by
 refine Ht (args:=[_,_]) Tryz.func111 J Tryz.ntmps111 J J J J J J J J (.some _ []) hO<|Zs ?_;refine Zm ?_;refine Zo (UT (b:=true) J J J (fun w=>by kernel_rfl))<|Zx ?_;refine Bn J<|Zs ?_;refine Zm ?_;refine Zo (Fg (v:=.tuple #[.agg #[Iv v,Iv e],.bool true]) J J (fun w=>by kernel_rfl)) ?_;refine Zz [3] ?_;refine ZA ze222 fun g3=>?_;refine Zq #[_,_] ?_;refine Za<|Zx<|Ai<|Zs ?_;refine Zz [2]<|Zx ?_;refine BN J<|Ao<|Aa ?_;refine Fw 330000 (od 6) ([AC g3 222 #[Iv v,Iv e]]) (PK (Bg .nil)) ?_;refine Yz [1] ?_;refine BG J J J (AG J J CA (B0 J)) ?_;refine Yz [1] ?_;refine BG J J J (AG J J W1 (B0 J)) ?_;refine AO J J J J (AP (cs':=#[_]) J J J Bw J (A1f J) J) (PK (Bg .nil)) ?_;refine AO J J J J (AP (cs':=#[_]) J J J sz29 J (A1f J) J) (PK (Bg .nil)) ?_;refine AF J ?_;simp only[zq,zr];refine AZ (E':=[]) trivial (BC (BC .nil)) ?_;refine BQ (.inr J) J ?_
 rfl
theorem PZ{x y:Value}{ga gb:Nat}{w:World}(hO:AR w [ga,gb] w [AC ga 3 #[x],AC gb 29 #[y]]):
  CallsD A1c 111 #[Pv ga,Pv gb] .returning w
   fun e' u' w'=>u'= .returning/\Ret w [ga,gb] (fun r M=>M=[AC ga 3 #[x],AC gb 29 #[y]]) e' w':=by
 refine Ht (args:=[_,_]) Tryz.func111 J Tryz.ntmps111 J J J J J J J J .none hO<|Zs ?_;refine Zm ?_;refine Zo (Rj (b:=false) J J (fun w=>by kernel_rfl))<|Zx ?_;refine BN J<|Ao ?_;refine BQ (.inr J) J ?_
 rfl
theorem own2{w0 w:World}{K:List Nat}{ga gb t t':Nat}{x y:Array Value}{F:List Chunk}(h:AR w0 K w (AC ga t x::AC gb t' y::F)):AR w [ga,gb] w [AC ga t x,AC gb t' y]:=
 (h.sub (L':=[AC ga t x,AC gb t' y]) (by simp)).self
theorem J8{f:Nat}{cap:Array Value}{w:World}{Lc:List Chunk}{C:List Chunk->Prop}{D:Int->Int->List Chunk->Prop}(hf:BY A1c f)(hO:AR w (AY Lc) w Lc)
 (hcon:∀w',AR w (AY Lc) w' Lc->Calls A1c f cap w' (Nd w' (AY Lc) (fun _ M=>C M) (fun pv M=>∃v e,pv=flt v e/\D v e M))):
  Calls A1c 75 #[.func (.func f) #[] cap] w (Ret w (AY Lc) fun r M=>(r= .tuple #[Iv 0,Iv 0]/\C M)\/∃v e,r= .tuple #[Iv v,Iv e]/\D v e M):=by
 refine OI (args:=[_]) Tryz.func75 J Tryz.ntmps75 J hO<|Zs ?_;refine ZA C6 fun g2=>?_;refine ZA ze29 fun g3=>Zx<|Zs ?_;refine Zo (Fu J J J) ?_;refine CN.defer J J J J<|Zx<|Zs ?_;refine Zm ?_;refine GQ (Lc:=Lc) (F:=[AC g3 29 #[Iv 0],AC g2 3 #[Iv 0]]) (K':=AY Lc) (C:=fun _ M=>C M) (D:=fun pv M=>∃v e,pv=flt v e/\D v e M) J J hf J J J (A1v (l₁:=[_,_])) (fun _ h=>h) (fun w' hw=>by simpa using hcon w' (hw.sub ((A1k _ _).trans (A1k _ _)))) ?_ ?_
 .rintro pv M ⟨v,e,rfl,hD⟩;refine AI<|Nh ?_;refine HC (f:=111) (cap:=[Pv g2,Pv g3]) (Lc:=[AC g2 3 #[Iv 0],AC g3 29 #[Iv 0]]) (F:=M) en111 (by simp) J
   ((A1v (l₁:=M)).trans (.swap _ _ _)) (fun k hk=>by simpa [AC] using hk) (fun w' hw=>PY (own2 (hw.perm ((A1v (l₁:=M)).trans (.swap _ _ _)).symm))) ?_;rintro r L' rfl a w' ha hw;have e2:a.tmps.getD 2 undef= Pv g2:=by have:=ha.ev (x:=.tmp 2) (v:=Pv g2) rfl;simpa only[Act.eval] using this
  have e3:a.tmps.getD 3 undef= Pv g3:=by have:=ha.ev (x:=.tmp 3) (v:=Pv g3) rfl;simpa only[Act.eval] using this
  exact⟨_,Kq J e2 e3 (DF (hw.holds (AC g2 3 #[Iv v]) (by simp)) CA J) (DF (hw.holds (AC g3 29 #[Iv e]) (by simp)) W1 J),
   _,M,rfl,.inr ⟨v,e,rfl,hD⟩,hw.sub ((A1k _ _).trans (A1k _ _))⟩
 intro v6 M hC;refine CN.own (fun w hw=>hw.perm (A1v (l₁:=[_,_]))) ?_;simp only[zs];refine Zx<|Zs ?_;refine Jj #[_] ?_;refine Jj #[_]<|Zx<|At ?_;refine SR ?_;refine HC (f:=111) (cap:=[Pv g2,Pv g3]) (Lc:=[AC g2 3 #[Iv 0],AC g3 29 #[Iv 0]]) (F:=M) en111 (by simp) J
  (.swap _ _ _) (fun k hk=>by simpa [AC] using hk) (fun w' hw=>PZ (own2 (hw.perm (.swap _ _ _)))) ?_;rintro r L' rfl a w' ha hw;have e2:a.tmps.getD 2 undef= Pv g2:=by have:=ha.ev (x:=.tmp 2) (v:=Pv g2) rfl;simpa only[Act.eval] using this
 have e3:a.tmps.getD 3 undef= Pv g3:=by have:=ha.ev (x:=.tmp 3) (v:=Pv g3) rfl;simpa only[Act.eval] using this
 exact⟨_,Kq J e2 e3 (DF (hw.holds (AC g2 3 #[Iv 0]) (by simp)) CA J) (DF (hw.holds (AC g3 29 #[Iv 0]) (by simp)) W1 J),
  _,M,rfl,.inl ⟨rfl,hC⟩,hw.sub ((A1k _ _).trans (A1k _ _))⟩
theorem H8:Ux A1c 3 encI:=keyI Tryz.underlying3
theorem KF:Ux A1c 149 encP:=YJ (by kernel_rfl) (fun e x w=>by kernel_rfl) (equalA (by kernel_rfl)) sameP
theorem Vb:Ux A1c 39 encP:=YJ (by kernel_rfl) (fun e x w=>by kernel_rfl) (equalS (by kernel_rfl)) sameP
theorem Ez{N:Int}{es:List Pr}{va:Value}{w:World}(h:DX w va es):Calls A1c 16 #[.agg #[Iv N,va]] w (Ret w [] fun v L=>L=[]/\∃b,v= .bool b/\(b=true↔BX N es)):=by
 obtain⟨A,cap,rfl,hr,_,_,hle⟩:=h;exact Fc N es A cap w hr (by omega)
structure FrI where
 i:Nat
 m:List (Pr×Value)
structure FrJ where
 v:Nat
 rs:RL
structure FrK where
 k:Nat
 pv:Value
 hs:List Int
 sm:List (Int×Value)
structure Z4 (es:List Pr) (ls:List (List Int)) (v:Nat) (rs:RL):Prop where
 len:rs.length=ls.length
 ok:∀(x:Nat) l,x<v->ls[x]? =some l->(∀u,u∈l->∃h,CZ es x u h)/\l.Nodup/\(l.length:Int)=Fr es x
 row:∀(x:Nat) l r,x<v->ls[x]? =some l->rs[x]? =some r->r.2.length=l.length/\∀(j:Nat) u h,l[j]? =some u->r.2[j]? =some h->CZ es x u h
 nil:∀(x:Nat) r,v<=x->rs[x]? =some r->r.2=[]
structure RowPart (es:List Pr) (v:Nat) (l:List Int) (j:FrK):Prop where
 le:j.k<=l.length
 len:j.hs.length=j.k
 half:∀(q:Nat) u h,l[q]? =some u->j.hs[q]? =some h->CZ es v u h
 nd:(l.take j.k).Nodup
 ex:∀u,u∈l.take j.k->∃h,CZ es v u h
 seen:∀h,HP j.sm h=if h∈j.hs then some (.bool true) else none
theorem SQ{N:Int}{es:List Pr}{ls:List (List Int)}{va v:Value}{w0 w:World}{ga gb gc:Nat}(hg:DX w0 va es)(hl:IM w0 v ls)
 (hO:AR w0 [] w [AC gc 86 #[Nv],AC gb 25 #[v],AC ga 24 #[Iv N,va]]):
  Calls A1c 76 #[Pv ga,Pv gb,Pv gc] w
   (Nd w (AY [AC gc 86 #[Nv],AC gb 25 #[v],AC ga 24 #[Iv N,va]])
    (fun _ M=>DD N es ls/\∃g rs,M=[AC gc 86 #[Sv g N.toNat],AC g 37 (Ba rs).toArray]++AT 3 rs/\Nc es ls (rs.map Prod.snd))
    (fun pv M=>∃v e,pv=flt v e/\(e≠0/\¬DD N es ls))):=by
 have hg0:=hg;obtain⟨A,cap,rfl,hr,hlc,hcm,hle⟩:=hg;obtain⟨B,capb,rfl,hrb,hlb,hcb,hleb⟩:=hl;refine FP (args:=[_,_,_]) Tryz.func76 J Tryz.ntmps76 J hO.self<|Zs ?_;refine CR [_,_] ?_;refine AL J J (AH PV J J J (fun w' hw=>Ez (Mh hg0 hO hw))) ?_;rintro _ ⟨b,rfl,hb⟩;refine CJ J J Lg J J J (fun w' hw=>CH b 0 1 w') ?_ ?_
 .rintro _ ⟨rfl,hbf⟩;refine AI<|?_;exact BR ⟨0,1,J,by decide,fun h=>by have:=hb.2 h.1;rw[hbf] at this;cases this⟩
 rintro _ hbt;have hV:BX N es:=hb.1 hbt;refine Zx<|Zs<|Zz [0,2,1] ?_;refine CJ J J Lg J J J (fun w' hw=>CH _ 0 110 w') ?_ ?_
 .rintro _ ⟨rfl,hbf⟩;refine AI<|?_;exact BR ⟨0,110,J,by decide,fun h=>by simp at hbf;exact hbf h.2.1⟩
 rintro _ hbN;have hN:(ls.length:Int)=N:=by simpa using hbN
 subst hN;have hN1:=hV.hi;have hfew:=hV.few;refine Zx<|Zs ?_;refine Bk J J (GI (enc:=encP) J) ?_;rintro _ _ ⟨gm,rfl,rfl⟩;simp only[zs];refine Za<|Zx<|Ai<|Zs ?_;refine Zz [1,2]<|Zx<|As ?_;refine AS (ι:=FrI) (fun j=>j.i<=es.length/\VK es j.i (HP j.m))
  (fun j=>[(0,Pv ga),(1,Pv gb),(2,Pv gc),(3,.map (some gm)),(26,(.slice A es.length cap)),(27,Iv es.length),(28,Iv j.i)])
  (fun j=>[Ej encP gm j.m,AC gc 86 #[Nv],AC gb 25 #[.slice B ls.length capb],AC ga 24 #[Iv (ls.length:Int),(.slice A es.length cap)]]) (fun j=>es.length-j.i) ⟨0,[]⟩ ⟨A1E _,TZ es⟩ ⟨J,J,J,J,J,J,J,trivial⟩ (Bg (Bg (Bg (Bg .nil)))) ?_;rintro⟨i,m⟩ ⟨hi,hm⟩;dsimp only at hi hm ⊢;refine Zs<|Zc<|Zx<|Ai ?_;refine Zd ?_ ?_<;>intro c4
 .have hlt:i<es.length:=by simpa using c4
  obtain⟨e,he⟩:∃e,es[i]? =some e:=⟨_,A1d hlt⟩;obtain⟨ad,rfl,hU,hVe⟩:=hr.pair he;refine Ao<|Aa<|Ai<|As<|Zs<|Zm ?_;refine Zo (Bz J J J A1y CF (by omega) (by omega) (by first|exact AX _ _|exact Cm _ _ _|rfl)) ?_;refine Zu (A4 (vs:=[_,_]) J J Hw CF J (Wz hO hU hVe)) ?_;refine ZA Fs fun g5=>?_;refine Za ?_;refine Zq #[_,_]<|Zx ?_;refine Fw 3300000000000000000 (od 19) ([AC g5 39 #[Iv e.1,Iv e.2]]) (PK (Bg .nil)) ?_;refine Yz [2] ?_;refine BG J J J (AG J J CA (B0 J)) ?_;refine Yz [1] ?_;refine BG J J J (AG J J CA (B0 J)) ?_;refine Yo J (LA (cs:=#[Iv e.1,Iv e.2]) J J (by kernel_rfl)) ?_;refine Yz [2] ?_;refine BG J J J (AG J J CA (B0 J)) ?_;refine Yz [1] ?_;refine BG J J J (AG J J CA (B0 J)) ?_;refine Yo J (LA (cs:=#[Iv e.2,Iv e.1]) J J (by kernel_rfl)) ?_;refine Ym ?_;refine Yo J (Dz J J J (by omega)) ?_;refine Ym ?_;refine Yo J (Dz J J J (by omega)) ?_;refine Yz [1] ?_;refine AO J J J J (Dm (k:=(e.1,e.2)) 1 J KF J J J J Tryz.underlying177 J) (PK (Bg .nil)) ?_;refine AO J J J J (Dm (k:=(e.2,e.1)) 1 J KF J J J J Tryz.underlying177 J) (PK (Bg .nil)) ?_;refine AF J ?_;simp only[zq,zr];refine An<|Aa<|Ak<|Zz [2]<|Az ?_;refine AB ⟨i+1,EA (e.2,e.1) (Iv (2*(i:Int)+1)) (EA (e.1,e.2) (Iv (2*(i:Int))) m)⟩ (by dsimp only;omega) ⟨by dsimp only;omega,?_⟩ ⟨J,J,J,J,J,J,J,trivial⟩ (BC (BC (BC (BC .nil))));have:=T0 hV he hm;intro p v;dsimp only;rw[Hh,Hh];exact this p v
 refine AN<|Ag<|Ag<|Aq<|Aa<|Zs ?_;refine CR [_,_] ?_;refine Bk J J (AH en78 J J J (fun w' hw=>IX (Mh hg0 hO hw))) ?_;intro v53 L53 hC53;obtain⟨_,gd,rfl,rfl⟩:=hC53.resolve_right (fun h=>h.1 hV);simp only[A1g,A1K,A1N];refine Zz [5]<|Zx<|Zs ?_;refine Zz [1,0] ?_;refine Zw (B6 (k:=ls.length) (cs:=(Ba (List.replicate ls.length (Nv,[]))).toArray) J J J A1z ET Sx Gq J (by omega) (by omega) (by rw[F3 _ rfl];simp[Ba])) fun g58=>?_;refine Jj #[_]<|Zx<|Zs ?_;refine Zz [0,2]<|Zx<|As ?_;have hie:i=es.length:=by simp at c4;omega
 subst hie;refine DC.own (fun w hw=>Mp (t:=3) ls.length hw) ?_;refine AS (ι:=FrJ) (fun j=>j.v<=ls.length/\Z4 es ls j.v j.rs)
  (fun j=>[(0,Pv ga),(1,Pv gb),(2,Pv gc),(3,.map (some gm)),(6,Sv gd ls.length),(59,.slice B ls.length capb),(60,Iv ls.length),(61,Iv j.v)])
  (fun j=>[AC g58 37 (Ba j.rs).toArray,AC gd 3 (AA (BA ls.length (fun v=>Fr es v))).toArray,Ej encP gm m,AC gc 86 #[Sv g58 ls.length],AC gb 25 #[.slice B ls.length capb],AC ga 24 #[Iv (ls.length:Int),(.slice A es.length cap)]]++AT 3 j.rs) (fun j=>ls.length-j.v) ⟨0,List.replicate ls.length (Nv,[])⟩
  ⟨A1E _,⟨by simp,fun _ _ h=>absurd h (A1w _),fun _ _ _ h=>absurd h (A1w _),fun x r _ hx=>by simp[A2h] at hx;rw[<-hx.2]⟩⟩ ⟨rfl,rfl,rfl,rfl,rfl,rfl,rfl,rfl,trivial⟩ (Ay _) ?_;rintro⟨v,rs⟩ ⟨hv,hd⟩;dsimp only at hv hd ⊢;simp only[zs];refine Zs<|Zc<|Zx<|Ai ?_;refine Zd ?_ ?_<;>intro c11
 .have hvlt:v<ls.length:=by simpa using c11
  obtain⟨l,hl⟩:∃l,ls[v]? =some l:=⟨_,A1d hvlt⟩;obtain⟨adb,lv,rfl,hc,Al,capl,rfl,hrl,hl1,hl2,hl3⟩:=hrb v l hl;have hrlen:=hd.len;obtain⟨p0,hp0⟩:∃p,rs[v]? =some p:=⟨_,A1d (by omega)⟩;have hp0n:=hd.nil v p0 (A1F _) hp0;obtain⟨pv0,hs0⟩:=p0;dsimp only at hp0n;subst hp0n;have hset0:rs.set v (pv0,[])=rs:=by
   apply A2z;intro q;rw[A3k];split
   .rename_i e;subst e;rw[if_pos (by omega)];exact hp0.symm
   rfl
  refine Ao<|Aa<|Ai<|As<|Zs<|Zz [2] ?_;refine Zu (AG J J D8 (JS hO hc)) ?_;refine Zz [2]<|Zx<|Zs ?_;refine Bk J J (GI (enc:=encI) J) ?_;rintro _ _ ⟨gs,rfl,rfl⟩;simp only[zs];refine Za<|Zx<|Ai<|Zs ?_;refine Zz [3]<|Zx<|As ?_;refine AS (ι:=FrK) (fun j=>RowPart es v l j)
   (fun j=>[(0,Pv ga),(1,Pv gb),(2,Pv gc),(3,.map (some gm)),(6,Sv gd ls.length),(8,Iv v),(9,.slice Al l.length capl),(10,.map (some gs)),(59,.slice (some adb) ls.length capb),(60,Iv ls.length),(61,Iv v),(67,.slice Al l.length capl),(68,Iv l.length),(69,Iv j.k)])
   (fun j=>[Ej encI gs j.sm,AC g58 37 (Ba (rs.set v (j.pv,j.hs))).toArray,AC gd 3 (AA (BA ls.length (fun v=>Fr es v))).toArray,Ej encP gm m,AC gc 86 #[Sv g58 ls.length],AC gb 25 #[.slice (some adb) ls.length capb],AC ga 24 #[Iv (ls.length:Int),(.slice A es.length cap)]]++AT 3 (rs.set v (j.pv,j.hs))) (fun j=>l.length-j.k) ⟨0,pv0,[],[]⟩
   ⟨A1E _,rfl,by simp,by simp,by simp,by simp⟩ ⟨rfl,rfl,rfl,rfl,rfl,rfl,rfl,rfl,rfl,rfl,rfl,rfl,rfl,rfl,trivial⟩ (by dsimp only;rw[hset0];exact Ay _) ?_;rintro⟨k,pv,hs,sm⟩ hR;have hRle:=hR.le;have hRlen:=hR.len;dsimp only at hRle hRlen ⊢;simp only[zs];refine Zs<|Zc<|Zx<|Ai ?_;refine Zd ?_ ?_<;>intro c15
  .have hklt:k<l.length:=by simpa using c15
   obtain⟨u,hu⟩:∃u,l[k]? =some u:=⟨_,A1d hklt⟩;obtain⟨adl,rfl,hcu⟩:=hrl.int hu;refine Ao<|Aa<|Ai<|As<|Zs<|Zz [1] ?_;refine Zu (AG J J CA (JS hO hcu)) ?_;refine Za<|Zx<|Zs ?_;refine Zz [3] ?_;refine Zo (LA (cs:=#[Iv v,Iv u]) J J (by kernel_rfl)) ?_;obtain⟨x0,jn,hlk,hj1,hj2⟩:∃x0 jn,(if true then(.tuple #[(HP m ((v:Int),u)).getD (Iv 0),.bool (HP m ((v:Int),u)).isSome]:Value) else(HP m ((v:Int),u)).getD (Iv 0))= .tuple #[x0,.bool jn]/\(jn=true->∃h,x0= Iv h/\CZ es v u h)/\(jn=false->∀h,¬CZ es v u h):=by
    refine⟨_,_,J,fun hj=>?_,fun hj h hh=>?_⟩
    .obtain⟨x,hx⟩:=Option.isSome_iff_exists.1 hj;obtain⟨h,rfl,hh,_⟩:=(hm _ _).1 hx;exact⟨h,by rw[hx];rfl,hh⟩
    have:=(hm ((v:Int),u) (Iv h)).2 ⟨h,rfl,hh,by have:=hh.hi;omega⟩;rw[this] at hj;cases hj
   refine Zu (Fd (k:=((v:Int),u)) 3 J KF J J J Tryz.underlying177 C6 hlk) ?_;refine Zz [5]<|Zx<|Zs ?_;refine Zz [2] ?_;refine CJ J J Lg J J J (fun w' hw=>CH jn v 111 w') ?_ ?_
   .rintro _ ⟨rfl,hbf⟩;refine AI<|AQ<|AI<|AI<|AQ<|AI<|AQ<|AI<|AI<|AQ<|?_;refine BR ⟨v,111,J,by decide,fun h=>?_⟩;obtain⟨h1,hh⟩:=(h.2.2 v l hl).1 u (A1h hu);exact hj2 hbf h1 hh
   rintro _ hjt;obtain⟨h,rfl,hh⟩:=hj1 hjt;refine Zx<|Zs<|Zz [2] ?_;refine Zu (Fd (ok:=false) (v:=.bool (decide (h∈hs))) (k:=h) 0 J H8 J J J Tryz.underlying179 ze4 (by rw[hR.seen h];dsimp only;by_cases hm:h∈hs<;>simp[hm])) ?_;refine Zz [2] ?_;refine CJ J J Lg J J J (fun w' hw=>CH _ v 112 w') ?_ ?_
   .rintro _ ⟨rfl,hbf⟩;refine AI<|AQ<|AI<|AI<|AQ<|AI<|AQ<|AI<|AI<|AQ<|?_;refine BR ⟨v,112,J,by decide,fun hok=>?_⟩;have hin:h∈hs:=by simpa using hbf
    obtain⟨q,hq⟩:=A1j.1 hin;have hqk:q<k:=by have:=(A1e.1 hq).1;omega
    obtain⟨u',hu'⟩:∃u',l[q]? =some u':=⟨_,A1d (by omega)⟩;have h1:=(hR.half q u' h hu' hq).to;have h2:=hh.to;have hnd:=(hok.2.2 v l hl).2.1;have:q=k:=by
     exact(A3x (by omega) hnd).1 (by rw[hu',hu,<-h1,h2])
    omega
   rintro _ hnin;have hni:h∉hs:=by simpa using hnin
   refine Zx<|Zs<|Zz [2] ?_;refine Zy (Dm (k:=h) 0 J H8 J J J J Tryz.underlying179 J) ?_;simp only[List.set_cons_zero];refine Zx ?_;obtain⟨rs1,hrs1⟩:∃rs1,rs1=rs.set v (pv,hs):=⟨_,rfl⟩;have hl1:rs1.length=ls.length:=by rw[hrs1];simp[hrlen]
   have hp1:rs1[v]? =some (pv,hs):=by rw[hrs1,A2A (by omega)]
   rw[<-hrs1];refine Fw 30320100000 (od 11) ([AC gc 86 #[Sv g58 ls.length]]) (PK (LQ .nil)) ?_;refine BG J J J (AG J J ag86 (B0 J)) ?_;refine Ym ?_;refine BG J J J (AG J J ag86 (B0 J)) ?_;refine Ym ?_;refine Yi A1z ET ?_;refine Yh (AK (FM hp1)) ?_;refine Ym ?_;refine A8 J J J J (Eo (cs:=#[_]) J J A1x Bw C6 J (by decide) (by decide) J J) fun g99=>?_;let ca:=AC g58 37 (Ba rs1).toArray;refine C5 (V:=AC g99 3 #[Iv h]::Ej encI gs (EA h (.bool true) sm)::ca::AC gd 3 (AA (BA ls.length (fun v=>Fr es v))).toArray::Ej encP gm m::AC gc 86 #[Sv g58 ls.length]::AC gb 25 #[.slice (some adb) ls.length capb]::AC ga 24 #[Iv (ls.length:Int),(.slice A es.length cap)]::AT 3 rs1) J J J J J
    (SP.shape (Bt (F:=[AC g99 3 #[Iv h],Ej encI gs (EA h (.bool true) sm),ca,AC gd 3 (AA (BA ls.length (fun v=>Fr es v))).toArray,Ej encP gm m,AC gc 86 #[Sv g58 ls.length],AC gb 25 #[.slice (some adb) ls.length capb],AC ga 24 #[Iv (ls.length:Int),(.slice A es.length cap)]]++AT 3 (rs1.eraseIdx v)) (vs:=AA hs) (k:=1) (news:=[Iv h]) J J J A1x Bw Fz C6 J (by decide) (by decide)
     (fun w hw=>hw.perm (Iq hp1 _).symm) (.inl ⟨_,_,rfl,AW rfl⟩) rfl (by intro u hu;simp at hu;subst hu;rfl) (by rw[ints_length];omega))) (fun v L' hC w hw=>by obtain⟨_,rfl⟩:=hC;exact hw.pick (W6 .nil)) ?_;rintro _ _ ⟨⟨A1,l1,c1,rfl⟩,rfl⟩;simp only[zs];refine Yi A1z ET ?_;refine AO J J J J (AP (cs':=(Ba (rs1.set v (.slice A1 l1 c1,hs++[h]))).toArray) J J J ET J (by simp;omega) (Ko rs1 v (.slice A1 l1 c1,hs++[h]))) (PK (W6 .nil)) ?_;refine AF J ?_;simp only[zq,zr];refine Dl.own (M:=[Ej encI gs (EA h (.bool true) sm),AC g58 37 (Ba (rs1.set v (.slice A1 l1 c1,hs++[h]))).toArray,AC gd 3 (AA (BA ls.length (fun v=>Fr es v))).toArray,Ej encP gm m,AC gc 86 #[Sv g58 ls.length],AC gb 25 #[.slice (some adb) ls.length capb],AC ga 24 #[Iv (ls.length:Int),(.slice A es.length cap)]]++AT 3 (rs1.set v (.slice A1 l1 c1,hs++[h]))) (fun w hw=>?_) ?_
   .have h4:=(hw.pick (BC (Ay _))).sub (A1k ..);have h5:=h4.pick (L':=Bf (.slice A1 l1 c1) 3 1 (AA (hs++[h]))::([Ej encI gs (EA h (.bool true) sm),AC g58 37 (Ba (rs1.set v (.slice A1 l1 c1,hs++[h]))).toArray,AC gd 3 (AA (BA ls.length (fun v=>Fr es v))).toArray,Ej encP gm m,AC gc 86 #[Sv g58 ls.length],AC gb 25 #[.slice (some adb) ls.length capb],AC ga 24 #[Iv (ls.length:Int),(.slice A es.length cap)]]++AT 3 (rs1.eraseIdx v))) (.cons' 0 rfl (by rw[BW];rfl) (Ay _));exact h5.perm (Ma (.slice A1 l1 c1,hs++[h]) (by omega) _).symm
   rw[hrs1,List.set_set];refine An<|Aa<|Ak<|Zz [2]<|Az ?_;refine AB (FrK.mk (k+1) (.slice A1 l1 c1) (hs++[h]) (EA h (.bool true) sm)) (by dsimp only;omega) ?_ ⟨J,J,J,J,J,J,J,J,J,J,J,J,J,J,trivial⟩ (Ay _);have htk:l.take (k+1)=l.take k++[u]:=by rw[A1W,hu];rfl
   refine⟨by dsimp only;omega,by simp[hRlen],?_,?_,?_,?_⟩
   .intro q u' h' hu' hh';dsimp only at hh';rw[List.getElem?_append] at hh';split at hh'
    .exact hR.half q u' h' hu' hh'
    have hqk:q=k:=by
     have:q-hs.length<1:=by have:=(A1e.1 hh').1;simpa using this
     omega
    subst hqk;rw[hu] at hu';cases hu';rw[show q-hs.length=0 by omega] at hh';cases hh';exact hh
   .dsimp only;rw[htk,A1I];refine⟨hR.nd,by simp,fun a ha b hb e=>?_⟩;simp at hb;subst hb;subst e;obtain⟨q,hq⟩:=A1j.1 ha;rw[A2j] at hq;split at hq
    .rename_i hqk;obtain⟨h',hh'⟩:∃h',hs[q]? =some h':=⟨_,A1d (by omega)⟩;have:=(hR.half q a h' hq hh').uniq hV hh;subst this;exact hni (A1h hh')
    cases hq
   .dsimp only;intro u' hu';rw[htk,A1C] at hu';rcases hu' with hu'|hu'
    .exact hR.ex u' hu'
    simp at hu';subst hu';exact⟨h,hh⟩
   intro h';dsimp only;rw[Hh,hR.seen h'];by_cases e:h'=h
   .subst e;simp
   simp[e]
  refine AN<|Ag<|Ag<|Aq<|Aa ?_;have hkl:k=l.length:=by simp at c15;omega
  subst hkl;obtain⟨rs1,hrs1⟩:∃rs1,rs1=rs.set v (pv,hs):=⟨_,rfl⟩;rw[<-hrs1];have hnd:=hR.nd;have hex:=hR.ex;dsimp only at hnd hex;rw[A1T] at hnd hex;refine Ak<|Zz [5] ?_;refine Zu (AG J J CA (AK (BB hvlt))) ?_;refine Zz [2] ?_;refine CJ J J Lg J J J (fun w' hw=>CH _ v 113 w') ?_ ?_
  .rintro _ ⟨rfl,hbf⟩;refine AQ<|AI<|AI<|AQ<|?_;refine BR ⟨v,113,J,by decide,fun hok=>?_⟩;have:=(hok.2.2 v l hl).2.2;simp at hbf;exact hbf this
  rintro _ hbt3;have hcnt:(l.length:Int)=Fr es v:=by simpa using hbt3
  refine Az<|An<|Aa<|Ak<|Zz [2]<|Az ?_;refine Dl.own (fun w hw=>hw.sub (A1k ..)) ?_;refine AB (FrJ.mk (v+1) rs1) (by dsimp only;omega) ⟨by dsimp only;omega,?_⟩ ⟨J,J,J,J,J,J,J,J,trivial⟩ (Ay _);subst hrs1;refine⟨by simp[hrlen],?_,?_,?_⟩
  .intro x l' hx hl';dsimp only at hx;rcases A1i.1 hx with hx|rfl
   .exact hd.ok x l' hx hl'
   rw[hl] at hl';cases hl';exact⟨hex,hnd,hcnt⟩
  .intro x l' r hx hl' hr';dsimp only at hx;rw[A3k] at hr';split at hr'
   .rename_i e;subst e;rw[if_pos (by omega)] at hr';cases hr';rw[hl] at hl';cases hl';exact⟨hRlen,hR.half⟩
   exact hd.row x l' r (by omega) hl' hr'
  intro x r hx hr';dsimp only at hx;rw[A2E (by omega)] at hr';exact hd.nil x r (by omega) hr'
 refine AN<|Ag<|Ag<|Aq ?_;have hvl:v=ls.length:=by simp at c11;omega
 subst hvl;refine AZ (E':=[]) trivial (Et (Bg (Bg (Bg (Bg (Bg (Ay _))))))) ?_;refine Dl.own (M:=[AC gc 86 #[Sv g58 ls.length],AC g58 37 (Ba rs).toArray]++AT 3 rs) (fun w hw=>hw.sub (.cons_cons _ (.cons_cons _ (.cons _ (.cons _ (.cons _ (.cons _ (List.Sublist.refl _)))))))) ?_;refine Ga (.inr J) (BQ (.inr J) J ⟨⟨hV,J,fun x l hl=>hd.ok x l (A1e.1 hl).1 hl⟩,g58,rs,by simp,by simp[hd.len],fun x l r hl hr=>?_⟩);rw[A1U,A2o] at hr;obtain⟨p,hp,rfl⟩:=hr;exact hd.row x l p (A1e.1 hl).1 hl hp
theorem K6{N:Int}{es:List Pr}{ls:List (List Int)}{va v:Value}{w:World}(hg:DX w va es)(hl:IM w v ls):
  Calls A1c 31 #[.agg #[Iv N,va],v] w (Ret w [] fun r M=>
   (DD N es ls/\∃g rs,r= .tuple #[Sv g N.toNat,Iv 0,Iv 0]/\M=[AC g 37 (Ba rs).toArray]++AT 3 rs/\Nc es ls (rs.map Prod.snd))\/
   (¬DD N es ls/\M=[]/\∃x e,r= .tuple #[Nv,Iv x,Iv e]/\e≠0)):=by
 have hg0:=hg;have hl0:=hl;obtain⟨A,cap,rfl,hr,hlc,hcm,hle⟩:=hg;obtain⟨B,capb,rfl,hrb,hlb,hcb,hleb⟩:=hl;refine cO Tryz.func31 Tryz.ntmps31<|Zs ?_;refine ZB fun g2=>?_;refine ZB fun g3=>?_;refine Zz [3]<|Zx<|Zs ?_;refine ZA ze86 fun g7=>Zx<|Ai ?_;refine DC.own (M:=[AC g7 86 #[Nv],AC g3 25 #[.slice B ls.length capb],AC g2 24 #[Iv N,.slice A es.length cap]]) (fun w hw=>hw)<|Ak ?_;refine Zo (Fu J J J) ?_;refine AU J J (BT en75 J J J (Lc:=[AC g7 86 #[Nv],AC g3 25 #[.slice B ls.length capb],AC g2 24 #[Iv N,.slice A es.length cap]]) (F:=[]) (.refl _) (fun k hk=>hk)
  (fun w' hw=>J8 (cap:=#[Pv g2,Pv g3,Pv g7]) (C:=fun M=>DD N es ls/\∃(g:Nat) (rs:RL),M=[AC g7 86 #[Sv g N.toNat],AC g 37 (Ba rs).toArray]++AT 3 rs/\Nc es ls (rs.map Prod.snd))
   (D:=fun v e M=>e≠0/\¬DD N es ls) en76 hw.self (fun w'' hw''=>SQ hg0 hl0 (by simpa using AR.frame (F:=[]) (by simpa using hw) hw'' (fun k hk=>hk))))) ?_;rintro v12 _ ⟨M,hC,rfl⟩;have hD:(∃v e,v12= .tuple #[Iv v,Iv e]/\((v=0/\e=0/\DD N es ls/\∃g rs,M=[AC g7 86 #[Sv g N.toNat],AC g 37 (Ba rs).toArray]++AT 3 rs/\Nc es ls (rs.map Prod.snd))\/(e≠0/\¬DD N es ls))):=by
  rcases hC with⟨rfl,hC⟩|⟨v,e,rfl,hC⟩
  .exact⟨0,0,J,.inl ⟨J,J,hC⟩⟩
  exact⟨v,e,J,.inr hC⟩
 clear hC;obtain⟨xv,xe,rfl,hD⟩:=hD;refine Zz [5]<|Zx<|Ai<|Zs ?_;refine Zz [2]<|Zx ?_;refine Zd ?_ ?_<;>intro c3
 .have hbad:xe≠0/\¬DD N es ls:=by
   rcases hD with⟨_,h0,_⟩|h
   .subst h0;simp at c3
   exact h
  refine Zs<|Zz [5]<|Zx<|At<|Ad ?_;refine UB 4 5 6 ?_;refine Cw (.inl J) J J J J ?_;exact .inr ⟨hbad.2,J,xv,xe,J,hbad.1⟩
 have h0:xe=0:=by simpa using c3
 obtain⟨_,_,hok,g,rs,rfl,hrr⟩:=hD.resolve_right (fun h=>h.1 h0);simp only[A1K,A1N,A1O];refine Ao<|Aa<|Zs<|Zz [0,3]<|Zx<|At ?_;refine AZ (E':=[(4,_),(5,_),(6,_)]) ⟨J,J,J,trivial⟩ (BC (Ay _)) ?_;refine Dl.own (M:=AC g 37 (Ba rs).toArray::AT 3 rs) (fun w hw=>hw.sub (.cons_cons _ (.cons _ (List.Sublist.refl _)))) ?_;refine Cw (.inl J) J J J J ?_;exact .inl ⟨hok,g,rs,J,by simp,hrr⟩
def TG(i:Nat):Nat->Int:=fun x=>if x<i then 1 else 0
def idA(i:Nat):Nat->Int:=fun x=>if x<i then(x:Int) else 0
theorem YN(i:Nat)(x:Nat):upd (idA i) i (i:Int) x=idA (i+1) x:=by unfold upd idA;split<;>split<;>(try split)<;>omega
theorem Wm(i:Nat)(x:Nat):upd (TG i) i 1 x=TG (i+1) x:=by unfold upd TG;split<;>split<;>(try split)<;>omega
theorem A0b{n:Nat}(hn:n<=1048576){w:World}:Calls A1c 146 #[Iv n] w (Ret w [] fun r M=>
  ∃gp g1 g2 sz,r= .tuple #[Pv gp,Iv 0]/\sz.length=n/\M=Fe gp g1 g2 n (fun a=>a) sz n):=by
 refine cO Tryz.func146 Tryz.ntmps146<|Zs ?_;refine Zz [2]<|Zx<|Ai<|Zs ?_;refine Zz [3] ?_;refine AM 8 J (fun k1_2=>?_) (fun k1_2=>?_)
 .refine Zz [3]<|Zx ?_;refine Bn J<|Zs ?_;refine Zz [2]<|Zx<|At<|Ad ?_;refine Bq (.inl J) J J J ?_;simp at k1_2;omega
 refine Zz [3]<|Zx ?_;refine Zd ?_ ?_<;>intro c1
 .refine Zs<|Zz [2]<|Zx<|At<|Ad ?_;refine Bq (.inl J) J J J ?_;simp at c1;omega
 refine Ao<|Aa<|Ai ?_;refine Fw 2002020 [0,2,4,1,3,5,6,7] [] PN ?_;refine Yz [3] ?_;refine A8 J J J J (B6 (k:=n) J J J Tryz.underlying273 Bw Fz C6 J (by omega) (by omega) (BS n)) fun g13=>?_;refine A8 J J J J (B6 (k:=n) J J J A1x Bw Fz C6 J (by omega) (by omega) (BS n)) fun g15=>?_;refine Yo J (Dy (cs:=#[_,_,_]) J J bs275 J J) ?_;refine A8 J J J J (HE J J J) fun g18=>?_;refine Yz [1] ?_;refine AF J ?_;simp only[zq,zr];refine Aa<|Ai<|Zs<|Zz [2]<|Zx<|As ?_;let ca:=AC g18 275 #[Sv g13 n,Sv g15 n,Iv n];refine AS (ι:=Nat) (fun i=>i<=n)
  (fun i=>[(4,Pv g18),(19,Iv n),(20,Iv i)])
  (fun i=>[ca,AC g15 3 (AA (BA n (TG i))).toArray,AC g13 3 (AA (BA n (idA i))).toArray]) (fun i=>n-i) 0 (A1E _) ⟨J,J,J,trivial⟩
  (Bg (.cons' 0 J (Bi fun x _=>by simp[TG]) (.cons' 0 J (Bi fun x _=>by simp[idA]) .nil))) ?_;intro i hi;refine Zs<|Zc<|Zx<|Ai ?_;refine Zd ?_ ?_<;>intro c5
 .have hlt:i<n:=by simpa using c5
  refine Ao<|Aa<|Ai<|As<|Zs<|Zz [2]<|Zx ?_;refine Fw 303000000000000 (od 15) ([ca]) (PK (Bg .nil)) ?_;refine Yz [3] ?_;refine BG J J J (AG J J VB (B0 J)) ?_;refine Yz [4] ?_;refine BG J J J (AG J J D8 (B0 J)) ?_;refine Yz [2] ?_;refine Yi Tryz.underlying273 Bw ?_;refine AO J J J J (AP (cs':=(AA (BA n (idA (i+1)))).toArray) J J J Bw J (by simp;omega) (by rw[BU];exact congrArg (fun l=>(AA l).toArray) (DE fun x _=>YN i x))) (PK (Bg .nil)) ?_;refine Yi A1x Bw ?_;refine AO J J J J (AP (cs':=(AA (BA n (TG (i+1)))).toArray) J J J Bw J (by simp;omega) (by rw[BU];exact congrArg (fun l=>(AA l).toArray) (DE fun x _=>Wm i x))) (PK (Bg .nil)) ?_;refine AF J ?_;simp only[zq,zr];refine An<|Aa<|Ak<|Zz [2]<|Az ?_;refine AB (i+1) (by omega) (by omega) ⟨J,J,J,trivial⟩ (Ay _)
 refine AN<|Ag<|Ag<|Aq<|Aa<|Zs<|Zz [3]<|Zx<|At ?_;have hin:i=n:=by simp at c5;omega
 subst hin;refine AZ (E':=[(2,_),(3,_)]) ⟨J,J,trivial⟩ (Bg (BC (Bg .nil))) ?_;refine Bq (.inl J) J J J ?_;refine⟨g18,g13,g15,BA i (TG i),J,by simp,?_⟩;unfold Fe;rw[Bi (f:=idA i) (g:=Qs fun a=>a) fun x hx=>by unfold idA Qs;rw[if_pos hx]]
structure NumI where
 a:Nat
 c:Nat
 p:Nat->Nat
 f:Nat->Int
def Qj(r:Nat->Nat)(a c:Nat)(f:Nat->Int):Prop:=
 (∀x,x<a->0<=f x/\f x<c)/\(∀x y,x<a->y<a->(f x=f y↔r x=r y))/\(c:Int)=((List.range a).countP fun x=>r x=x)/\c<=a
theorem Ny{gp g1 g2 n:Nat}{p:Nat->Nat}{sz:List Int}{c:Int}{w:World}(hO:AR w (AY (Fe gp g1 g2 n p sz c)) w (Fe gp g1 g2 n p sz c))(hp:IN p)(hn:n<=1048576):
  Calls A1c 148 #[.pointer (some ⟨gp,0,none⟩)] w (Ret w (AY (Fe gp g1 g2 n p sz c)) fun r M=>
   ∃g k f,r= .tuple #[.slice (some ⟨g,0,none⟩) n n,.int .i64 (k:Nat)]/\Qj (rt p) n k f/\M=[AC g 3 (AA (BA n f)).toArray]):=by
 refine BO (args:=[_]) Tryz.func148 J Tryz.ntmps148 J hO ?_;unfold Fe;refine Zs<|Zz [2]<|Zx<|Zs ?_;refine Zz [3,1] ?_;refine Zw (B6 (k:=n) J J J A1x Bw Fz C6 J (by omega) (by omega) (BS n)) fun g13=>?_;refine Za<|Zx<|Zs ?_;refine Za<|Zx<|Ai<|Zs ?_;refine Zz [3]<|Zx<|As ?_;let ca:=AC gp 275 #[.slice (some ⟨g1,0,none⟩) n n,.slice (some ⟨g2,0,none⟩) n n,.int .i64 c];refine AS (ι:=NumI) (fun j=>j.a<=n/\IN j.p/\(∀x,rt j.p x=rt p x)/\Qj (rt p) j.a j.c j.f)
  (fun j=>[(0,.pointer (some ⟨gp,0,none⟩)),(4,.slice (some ⟨g13,0,none⟩) n n),(5,.int .i64 j.c),(14,.slice (some ⟨g13,0,none⟩) n n),(15,.int .i64 n),(16,.int .i64 j.a)])
  (fun j=>[AC g13 3 (AA (BA n j.f)).toArray,ca,AC g1 3 (AA (BA n (Qs j.p))).toArray]) (fun j=>n-j.a) ⟨0,0,p,fun _=>0⟩
  ⟨A1E _,hp,fun _=>rfl,by simp,by simp,by simp,A1F _⟩ ⟨rfl,rfl,rfl,rfl,rfl,rfl,trivial⟩ (.cons 0 rfl (.cons 0 rfl (.cons 0 rfl .nil))) ?_;rintro⟨a,k,q,f⟩ ⟨ha,hq,hqr,hL1,hL2,hL3,hL4⟩;dsimp only at ha hq hqr hL1 hL2 hL3 hL4 ⊢;refine Zs<|Zc<|Zx<|Ai ?_;refine Zd ?_ ?_<;>intro c4
 .have hlt:a<n:=by simpa using c4
  refine Ao<|Aa<|Ai<|As<|Zs<|Zz [2]<|Zx<|Ai<|Zs ?_;refine Zz [3,1] ?_;refine AU J J (BT Y2 J J J (Lc:=[AC g1 3 (AA (BA n (Qs q))).toArray]) (F:=[AC g13 3 (AA (BA n f)).toArray,ca]) (A1v (l₁:=[_,_]) (l₂:=[_])) (fun k hk=>by simpa [AC] using hk) (fun w hw=>I1 (hw.pick (.cons 2 J .nil)).self hq hlt hn)) ?_;rintro _ _ ⟨_,⟨rfl,q2,hq2,hqr2,rfl⟩,rfl⟩;simp only[zs];rw[hqr a];have hle:=QV p a;have hidem:rt p (rt p a)=rt p a:=A0J hp a;obtain⟨r,hr⟩:∃r,r=rt p a:=⟨_,rfl⟩;rw[<-hr] at hle hidem ⊢;have hcnt:∀(b:Bool),decide (rt p a=a)=b->(List.range (a+1)).countP (fun x=>rt p x=x)=(List.range a).countP (fun x=>rt p x=x)+(if b then 1 else 0):=by
   intro b hb;rw[A2p,A2r];subst hb;simp[A1Q]
  refine Za<|Zx<|Zs ?_;refine Zz [3]<|Zx ?_;refine Zd ?_ ?_<;>intro c7
  .have hra:r<a:=by simpa using c7
   refine Zs<|Zz [5] ?_;refine Zu (AG J J CA (AK (BB (by omega)))) ?_;refine Zz [1] ?_;refine Zy (AP (cs':=(AA (BA n (upd f a (f r)))).toArray) J J J Bw J (by simp;omega) BU)<|Zx<|AN<|Ag<|Aq<|Aa<|Ak ?_;refine Zz [2]<|Az ?_;refine AB (NumI.mk (a+1) k q2 (upd f a (f r))) (by dsimp only;omega) ⟨by dsimp only;omega,hq2,fun x=>by rw[hqr2,hqr],?_,?_,?_,by dsimp only;omega⟩ ⟨J,J,J,J,J,J,trivial⟩ (.cons 1 J (.cons 1 J (.cons 0 J .nil)))
   .intro x hx;dsimp only at hx ⊢;unfold upd;split
    .exact hL1 r hra
    exact hL1 x (by omega)
   .intro x y hx hy;dsimp only at hx hy ⊢;unfold upd;by_cases e1:x=a
    .by_cases e2:y=a
     .subst e1 e2;simp
     rw[if_pos e1,if_neg e2,hL2 r y hra (by omega),hidem,e1,<-hr]
    by_cases e2:y=a
    .rw[if_neg e1,if_pos e2,hL2 x r (by omega) hra,hidem,e2,<-hr]
    rw[if_neg e1,if_neg e2];exact hL2 x y (by omega) (by omega)
   dsimp only;rw[hcnt false (by simp;omega)];simpa using hL3
  have hra:r=a:=by simp at c7;omega
  subst hra;refine Ao<|Aa<|Zs<|Zz [4] ?_;refine Zy (AP (cs':=(AA (BA n (upd f r (k:Int)))).toArray) J J J Bw J (by simp;omega) BU)<|Zx<|Ak ?_;refine Zz [3]<|Az<|An<|Aa<|Ak ?_;refine Zz [2]<|Az ?_;refine AB (NumI.mk (r+1) (k+1) q2 (upd f r (k:Int))) (by dsimp only;omega) ⟨by dsimp only;omega,hq2,fun x=>by rw[hqr2,hqr],?_,?_,?_,by dsimp only;omega⟩ ⟨J,J,J,J,J,J,trivial⟩ (.cons 1 J (.cons 1 J (.cons 0 J .nil)))
  .intro x hx;dsimp only at hx ⊢;unfold upd;split
   .omega
   have:=hL1 x (by omega);omega
  .intro x y hx hy;dsimp only at hx hy ⊢;unfold upd;by_cases e1:x=r
   .by_cases e2:y=r
    .subst e1 e2;simp
    rw[if_pos e1,if_neg e2,e1,<-hr];have h1:=hL1 y (by omega);have h2:=QV p y;constructor
    .intro h;omega
    intro h;omega
   by_cases e2:y=r
   .rw[if_neg e1,if_pos e2,e2,<-hr];have h1:=hL1 x (by omega);have h2:=QV p x;constructor
    .intro h;omega
    intro h;omega
   rw[if_neg e1,if_neg e2];exact hL2 x y (by omega) (by omega)
  dsimp only;rw[hcnt true (by simp;omega)];simp at hL3 ⊢;omega
 refine AN<|Ag<|Ag<|Aq<|Aa<|Zs<|Zz [4]<|Zx<|At ?_;have han:a=n:=by simp at c4;omega
 subst han;refine AZ (E':=[(2,_),(3,_)]) ⟨J,J,trivial⟩ (.cons 0 J .nil) ?_;refine Bq (.inl J) J J J ?_;exact⟨g13,k,f,J,⟨hL1,hL2,hL3,hL4⟩,J⟩
structure OfI where
 i:Nat
 p:Nat->Nat
 sz:List Int
 c:Int
theorem A0a{n:Nat}{es:List Pr}{va:Value}{w:World}(hg:DX w va es)(hV:BX n es):
  Calls A1c 113 #[.agg #[Iv n,va]] w (Ret w [] fun r M=>
   ∃g k f q,r= .tuple #[Sv g n,Iv (k:Nat),Iv 0]/\IN q/\GR es (rt q)/\Qj (rt q) n k f/\M=[AC g 3 (AA (BA n f)).toArray]):=by
 have hg0:=hg;obtain⟨A,cap,rfl,hr,hlc,hcm,hle⟩:=hg;have hN1:n<=1048576:=by have:=hV.hi;omega
 refine cO Tryz.func113 Tryz.ntmps113<|Zs ?_;refine ZB fun g1=>?_;refine Zz [3]<|Zx<|Ai<|Zs ?_;refine CR [_,_] ?_;refine AL J J (AH PV J J J (fun w' hw=>Ez (hg0.keep0 hw))) ?_;rintro _ ⟨b,rfl,hb⟩;refine Zz [1]<|Zx ?_;refine Zd ?_ ?_<;>intro c1
 .refine Zs<|Zz [3]<|Zx<|At<|Ad ?_;refine Cw (.inl J) J J J J ?_;exact absurd (hb.2 hV) (by simpa using c1)
 refine Ao<|Aa<|Zs<|Zz [1,0] ?_;refine Bk J J (AH en146 J J J (fun w' hw=>A0b hN1)) ?_;rintro _ _ ⟨gp,ga,gb,sz,rfl,hsz,rfl⟩;simp only[Fe,A1K,A1N];refine Zz [5]<|Zx<|Ai<|Zs ?_;refine Zz [1,2]<|Zx<|As ?_;refine AS (ι:=OfI) (fun j=>j.i<=es.length/\IN j.p/\j.sz.length=n/\GR (es.take j.i) (rt j.p))
  (fun j=>[(5,Pv gp),(21,.slice A es.length cap),(22,Iv es.length),(23,Iv j.i)])
  (fun j=>Fe gp ga gb n j.p j.sz j.c) (fun j=>es.length-j.i) ⟨0,fun a=>a,sz,n⟩ ⟨A1E _,fun _=>A1F _,hsz,KY (fun x=>(JB (p:=fun a=>a) J).symm) Wc⟩ ⟨J,J,J,J,trivial⟩ (Bg (Bg (Bg .nil))) ?_;rintro⟨i,p,sz',c⟩ ⟨hi,hp,hs,hP⟩;dsimp only at hi hp hs hP ⊢;refine Zs<|Zc<|Zx<|Ai ?_;refine Zd ?_ ?_<;>intro c5
 .have hlt:i<es.length:=by simpa using c5
  obtain⟨e,he⟩:∃e,es[i]? =some e:=⟨_,A1d hlt⟩;obtain⟨ad,rfl,hU,hVe⟩:=hr.pair he;have ho:=hV.ok i e he;obtain⟨u,hu⟩:=A1n ho.lo;obtain⟨v,hv⟩:=A1n (show 0<=e.2 by have:=ho.lo;have:=ho.lt;omega);obtain rfl:e=((u:Int),(v:Int)):=Prod.ext hu hv;clear hu hv;have huv:u<v:=by have:=ho.lt;simp at this;exact this
  have hvN:v<n:=by have:=ho.hi;simp at this;exact this
  replace hU:w.cell? (ad.add (i*2))=some (Iv (u:Int)):=hU;replace hVe:w.cell? (ad.add (i*2+1))=some (Iv (v:Int)):=hVe;refine Ao<|Aa<|Ai<|As<|Zs ?_;refine Zo (Bz J J J A1y CF (by omega) (by omega) (by first|exact AX _ _|exact Cm _ _ _|rfl)) ?_;refine Zu (A4 (vs:=[_,_]) J J Hw CF J (Fm hU hVe (by simp))) ?_;refine ZA Fs fun g8=>?_;refine Zq #[_,_]<|Zx<|Ak ?_;refine Zz [2,1,0] ?_;refine AU J J (BT en147 J J J (Lc:=Fe gp ga gb n p sz' c) (F:=[AC g8 39 #[Iv u,Iv v]]) (A1v (l₁:=[_]) (l₂:=Fe gp ga gb n p sz' c)) (fun k hk=>hk) (fun w' hw=>Uy (hw.sub (A1k ..)).self hp (by omega) hvN hN1 hs hP)) ?_;rintro _ _ ⟨_,⟨q,sz2,c2,hq,hs2,hP2,rfl⟩,rfl⟩;refine Az<|An<|Aa<|Ak<|Zz [2]<|Az ?_;refine AB (OfI.mk (i+1) q sz2 c2) (by dsimp only;omega) ⟨by dsimp only;omega,hq,hs2,?_⟩ ⟨J,J,J,J,trivial⟩ (Bg (Bg (Bg .nil)));dsimp only;rw[A1W,he];exact hP2
 refine AN<|Ag<|Ag<|Aq<|Aa<|Ai ?_;have hie:i=es.length:=by simp at c5;omega
 subst hie;rw[A1T] at hP;refine Ak<|Zm ?_;refine AU J J (BT en148 J J J (Lc:=Fe gp ga gb n p sz' c) (F:=[]) (by rw[A1O]) (fun k hk=>hk) (fun w' hw=>Ny hw.self hp hN1)) ?_;rintro _ _ ⟨_,⟨g,k,f,rfl,hL,rfl⟩,rfl⟩;refine Zz [5]<|Zx<|Zs ?_;refine Zz [5]<|Zx<|At ?_;refine Cw (.inl J) J J J J ?_;exact⟨g,k,f,p,J,hp,hP,hL,J⟩
theorem Vi:∀(a b:List Pr),frs (a++b)=frs a++frs b
 | [],b=>rfl
 | e::r,b=>by simp[frs,Vi r b]
structure BegI where
 i:Nat
 v:Value
theorem P5{N:Int}{es:List Pr}{va:Value}{w:World}(hg:DX w va es)(hl:es.length<=4194304):
  Calls A1c 189 #[.agg #[Iv N,va]] w (Ret w [] fun v M=>M=[Bf v 3 1 (AA (frs es))]):=by
 obtain⟨A,cap,rfl,hr,hlc,hcm,hle⟩:=hg;refine cO Tryz.func189 Tryz.ntmps189<|Zs ?_;refine ZB fun g1=>?_;refine Za<|Zx<|Zs ?_;refine Zz [1,1] ?_;refine Zo (Dz J J J (by omega)) ?_;refine Zw (PD (l:=0) (k:=2*es.length) J J J A1x Bw Fz C6 J (by omega) (by omega) (by omega) (by omega) (F3 _ J _)) fun g10=>?_;refine Za<|Zx<|Ai<|Zs ?_;refine Zz [1,2]<|Zx<|As ?_;refine DC.weak (E':=[(3,.slice (So g10) 0 (2*es.length)),(12,.slice A es.length cap),(13,Iv es.length),(14,Iv 0)]) ⟨J,J,J,J,trivial⟩ (Bg .nil) ?_;refine DC.own (fun w hw=>Ca (vs:=[]) (m:=1) (len:=0) (cap:=2*es.length) J (by decide) (by omega) (by omega) (by simp) J hw) ?_;refine AS (ι:=BegI) (fun j=>j.i<=es.length)
  (fun j=>[(3,j.v),(12,.slice A es.length cap),(13,Iv es.length),(14,Iv j.i)])
  (fun j=>[Bf j.v 3 1 (AA (frs (es.take j.i)))]) (fun j=>es.length-j.i) ⟨0,_⟩ (A1E _) ⟨J,J,J,J,trivial⟩ (Bg .nil) ?_;rintro⟨i,v⟩ hi;dsimp only at hi ⊢;refine Zs<|Zc<|Zx<|Ai ?_;refine Zd ?_ ?_<;>intro c3
 .have hlt:i<es.length:=by simpa using c3
  obtain⟨e,he⟩:∃e,es[i]? =some e:=⟨_,A1d hlt⟩;obtain⟨ad,rfl,hU,hV⟩:=hr.pair he;refine Ao<|Aa<|Ai<|As<|Zs ?_;refine Zo (Bz J J J A1y CF (by omega) (by omega) (by first|exact AX _ _|exact Cm _ _ _|rfl)) ?_;refine Zu (A4 (vs:=[_,_]) J J Hw CF J (Fm hU hV (by simp))) ?_;refine ZA Fs fun g5=>?_;refine Zq #[_,_]<|Zx<|Ak ?_;refine Zz [2,1,0] ?_;refine ZL #[_,_] A1x Bw C6 fun g23=>?_;refine AU J J (Bt J J J A1x Bw Fz C6 J (by decide) (by decide) (PK (CY .nil)) (.inl ⟨_,_,J,AW J⟩) J (CL [e.1,e.2] []) (by simp[Cz];omega)) ?_;rintro v24 _ rfl;refine Za<|Az<|An<|Aa<|Ak ?_;refine Zz [2]<|Az ?_;refine AB ⟨i+1,v24⟩ (by dsimp only;omega) (by dsimp only;omega) ⟨J,J,J,J,trivial⟩ (.cons' 0 J (by dsimp only;rw[A1W,he];simp[Vi,frs,AA]) .nil)
 refine AN<|Ag<|Ag<|Aq<|Aa<|Zs<|Zz [2]<|Zx<|At ?_;refine Zh ?_;have hin:i=es.length:=by simp at c3;omega
 subst hin;rw[A1T]
/-! ### a row of bools -/
def IV(n:Nat)(f:Nat->Bool):List Value:=(List.range n).map fun i=>.bool (f i)
@[simp] theorem bls_length (n:Nat) (f:Nat->Bool):(IV n f).length=n:=by simp[IV]
theorem LP{n i:Nat}(f:Nat->Bool)(h:i<n):(IV n f).toArray[i]? =some (.bool (f i)):=by simp[IV,h]
def Ki(f:Nat->Bool)(a:Nat)(b:Bool):Nat->Bool:=fun i=>if i=a then b else f i
theorem LO{n a:Nat}(f:Nat->Bool)(b:Bool):(IV n f).toArray.setIfInBounds a (.bool b)=(IV n (Ki f a b)).toArray:=by
 rw[List.setIfInBounds_toArray]
 congr 1
 apply A2z;intro q;rw[A3k];by_cases hq:a=q
 .subst hq;by_cases h:a<n
  .simp[IV,h,Ki]
  simp[IV,h]
 rw[if_neg hq];by_cases h:q<n
 .simp[IV,h,Ki,Ne.symm hq]
 simp[IV,h]
theorem JL(n:Nat):madeCells (Value.bool false).cells (n*1)=(IV n fun _=>false).toArray:=by
 rw[F3 _ rfl]
 congr 1
 simp[IV,List.map_const']
structure ChkI where
 v:Nat
 f:Nat->Bool
structure ChkD (N:Int) (es:List Pr) (rs:List (List Int)) (v:Nat) (f:Nat->Bool):Prop where
 ok:∀(x:Nat) l,x<v->rs[x]? =some l->(∀h,h∈l->0<=h/\h<es.length*2/\Aj es h=x)/\l.Nodup/\(l.length:Int)=Fr es x
 seen:∀h,f h=true↔∃(x:Nat) (l:List Int),x<v/\rs[x]? =some l/\(h:Int)∈l
structure ChkP (es:List Pr) (rs:List (List Int)) (v:Nat) (l:List Int) (j:ChkI):Prop where
 le:j.v<=l.length
 fr:∀h,h∈l.take j.v->0<=h/\h<es.length*2/\Aj es h=v
 nd:(l.take j.v).Nodup
 seen:∀h,j.f h=true↔(∃(x:Nat) (l':List Int),x<v/\rs[x]? =some l'/\(h:Int)∈l')\/(h:Int)∈l.take j.v
theorem Ss{N:Int}{es:List Pr}{rs:List (List Int)}{va v:Value}{w:World}(hg:DX w va es)(hl:IM w v rs):
  Calls A1c 182 #[.agg #[Iv N,va],v] w (Nd w [] (fun _ M=>CO N es rs/\M=[]) (fun pv M=>∃x e,pv=flt x e/\(e≠0/\¬CO N es rs))):=by
 have hg0:=hg;obtain⟨A,cap,rfl,hr,hlc,hcm,hle⟩:=hg;obtain⟨B,capb,rfl,hrb,hlb,hcb,hleb⟩:=hl;refine FP (K:=[]) (args:=[_,_]) (L:=[]) Tryz.func182 J Tryz.ntmps182 J (B8 _ _)<|Zs ?_;refine ZB fun g2=>Zx<|Zs ?_;refine CR [_,_] ?_;refine AL J J (AH PV J J J (fun w' hw=>Ez (hg0.keep0 hw))) ?_;rintro _ ⟨b,rfl,hb⟩;refine CJ J J Lg J J J (fun w' hw=>CH b 0 1 w') ?_ ?_
 .rintro _ ⟨rfl,hbf⟩;refine AI<|?_;exact BR ⟨0,1,J,by decide,fun h=>by have:=hb.2 h.1;rw[hbf] at this;cases this⟩
 rintro _ hbt;have hV:BX N es:=hb.1 hbt;refine Zx<|Zs<|Zz [3,1] ?_;refine CJ J J Lg J J J (fun w' hw=>CH _ 0 110 w') ?_ ?_
 .rintro _ ⟨rfl,hbf⟩;refine AI<|?_;exact BR ⟨0,110,J,by decide,fun h=>by simp at hbf;exact hbf h.2.1⟩
 rintro _ hbN;have hN:(rs.length:Int)=N:=by simpa using hbN
 subst hN;have hN1:=hV.hi;have hfew:=hV.few;refine Zx<|Zs ?_;refine CR [_,_] ?_;refine Bk J J (AH en78 J J J (fun w' hw=>IX (hg0.keep0 hw))) ?_;intro v23 L23 hC23;obtain⟨_,gd,rfl,rfl⟩:=hC23.resolve_right (fun h=>h.1 hV);simp only[A1g,A1K,A1N];refine Zz [5]<|Zx<|Zs ?_;refine CR [_,_] ?_;refine Bk J J (AH en189 J J J (fun w' hw=>P5 (hg0.keep0 hw) hfew)) ?_;rintro v27 _ rfl;simp only[zs];refine Za<|Zx<|Ai ?_;refine DC.slcs (i:=0) J (by rw[Cz];omega) ?_;rintro A6 c6 rfl hA6;rw[Cz];refine Ak<|Zz [2] ?_;refine Zw (B6 (k:=es.length*2) J J J Tryz.underlying183 sz4 by4 ze4 (by omega) (by omega) (by omega) (JL _)) fun g30=>?_;refine Za<|Zx<|Zs ?_;refine Zz [3]<|Zx<|As ?_;let ca:=Bf (.slice A6 (es.length*2) c6) 3 1 (AA (frs es));let cb:=AC gd 3 (AA (BA rs.length (fun v=>Fr es v))).toArray;refine AS (ι:=ChkI) (fun j=>j.v<=rs.length/\ChkD rs.length es rs j.v j.f)
  (fun j=>[(4,Sv gd rs.length),(6,.slice A6 (es.length*2) c6),(7,.slice (So g30) (es.length*2) (es.length*2)),(31,.slice B rs.length capb),(32,Iv rs.length),(33,Iv j.v)])
  (fun j=>[AC g30 4 (IV (es.length*2) j.f).toArray,ca,cb]) (fun j=>rs.length-j.v) ⟨0,fun _=>false⟩
  ⟨A1E _,fun _ _ h=>absurd h (A1w _),fun h=>⟨fun e=>by simp at e,fun⟨x,l,h,_⟩=>absurd h (A1w _)⟩⟩ ⟨rfl,rfl,rfl,rfl,rfl,rfl,trivial⟩ (Bg (Bg (Bg .nil))) ?_;rintro⟨v,f⟩ ⟨hv,hd⟩;dsimp only at hv hd ⊢;refine Zs<|Zc<|Zx<|Ai ?_;refine Zd ?_ ?_<;>intro c7
 .have hvlt:v<rs.length:=by simpa using c7
  obtain⟨l,hl⟩:∃l,rs[v]? =some l:=⟨_,A1d hvlt⟩;obtain⟨adb,lv,rfl,hc,Al,capl,rfl,hrl,hl1,hl2,hl3⟩:=hrb v l hl;refine Ao<|Aa<|Ai<|As<|Zs<|Zm ?_;refine Zi A1z ET ?_;refine Zu (AG J J D8 (A7 hc)) ?_;refine Zz [2]<|Zx<|Ai<|Zs ?_;refine Zz [3]<|Zx<|As ?_;refine AS (ι:=ChkI) (fun j=>ChkP es rs v l j)
   (fun j=>[(4,Sv gd rs.length),(6,.slice A6 (es.length*2) c6),(7,.slice (So g30) (es.length*2) (es.length*2)),(8,Iv v),(9,.slice Al l.length capl),(31,.slice (some adb) rs.length capb),(32,Iv rs.length),(33,Iv v),(38,.slice Al l.length capl),(39,Iv l.length),(40,Iv j.v)])
   (fun j=>[AC g30 4 (IV (es.length*2) j.f).toArray,ca,cb]) (fun j=>l.length-j.v) ⟨0,f⟩
   ⟨A1E _,by simp,by simp,fun h=>by rw[hd.seen h];simp⟩ ⟨rfl,rfl,rfl,rfl,rfl,rfl,rfl,rfl,rfl,rfl,rfl,trivial⟩ (Ay _) ?_;rintro⟨k,f2⟩ hP;have hPle:=hP.le;have hPse:=hP.seen;dsimp only at hPle hPse ⊢;refine Zs<|Zc<|Zx<|Ai ?_;refine Zd ?_ ?_<;>intro c10
  .have hklt:k<l.length:=by simpa using c10
   obtain⟨h,hh⟩:∃h,l[k]? =some h:=⟨_,A1d hklt⟩;obtain⟨adl,rfl,hch⟩:=hrl.int hh;have hmem:=A1h hh;refine Ao<|Aa<|Ai<|As<|Zs<|Zi A1x Bw ?_;refine Zu (AG J J CA (A7 hch)) ?_;refine Za<|Zx<|Zs ?_;refine Zz [3] ?_;refine AM 46 J (fun k12_2=>?_) (fun k12_2=>?_)
   .refine Zz [6] ?_;refine AM 52 J (fun k12_8=>?_) (fun k12_8=>?_)
    .have hh0:0<=h:=by simpa using k12_2
     have hh1:h<es.length*2:=by simp at k12_8;omega
     obtain⟨x6,hx6,hfv⟩:=Ia es hh0 hh1;obtain⟨ad6,rfl⟩:=hA6 (fun e=>by rw[<-A3l,Cz] at e;omega);refine Zz [2] ?_;refine Zi A1x Bw ?_;refine Zu (AG J J CA (Cv (i:=1) J hx6 (by rw[Cz];omega))) ?_;refine Zz [4] ?_;refine CJ J J Lg J J J (fun w' hw=>CH _ v 111 w') ?_ ?_
     .rintro _ ⟨rfl,hbf⟩;refine AI<|AQ<|AI<|AI<|AQ<|AI<|AQ<|AI<|AI<|AQ<|?_;refine BR ⟨v,111,J,by decide,fun hok=>?_⟩;have:=((hok.2.2 v l hl).1 h hmem).2.2;rw[hfv] at this;simp at hbf;exact hbf this
     rintro _ hbt1;have hfr:Aj es h=v:=by rw[hfv];simpa using hbt1
     obtain⟨hn,rfl⟩:=A1n hh0;refine Zx<|Zs<|Zz [3] ?_;refine Zu (AG J J Um (AK (LP f2 (by omega)))) ?_;refine Zz [2] ?_;refine CJ J J Lg J J J (fun w' hw=>CH _ v 112 w') ?_ ?_
     .rintro _ ⟨rfl,hbf⟩;refine AI<|AQ<|AI<|AI<|AQ<|AI<|AQ<|AI<|AI<|AQ<|?_;refine BR ⟨v,112,J,by decide,fun hok=>?_⟩;have hs:f2 hn=true:=by simpa using hbf
      rcases(hPse hn).1 hs with⟨x,l',hx,hl',hm⟩|hm
      .have:=((hok.2.2 x l' hl').1 _ hm).2.2;omega
      obtain⟨q,hq⟩:=A1j.1 hm;rw[A2j] at hq;split at hq
      .have:=(A3x (by omega) (hok.2.2 v l hl).2.1).1 (hq.trans hh.symm);omega
      cases hq
     rintro _ hbt2;have hns:¬(f2 hn=true):=by simpa using hbt2
     refine Zx<|Ak<|Zz [3] ?_;refine Zy (AP (cs':=(IV (es.length*2) (Ki f2 hn true)).toArray) J J J sz4 J (by simp;omega) (LO f2 true))<|Az<|An<|Aa<|Ak ?_;refine Zz [2]<|Az ?_;refine AB (ChkI.mk (k+1) (Ki f2 hn true)) (by dsimp only;omega) ?_ ⟨J,J,J,J,J,J,J,J,J,J,J,trivial⟩ (Ay _);have htk:l.take (k+1)=l.take k++[(hn:Int)]:=by rw[A1W,hh];rfl
     have hnk:(hn:Int)∉l.take k:=fun hm=>hns ((hPse hn).2 (.inr hm));refine⟨by dsimp only;omega,?_,?_,?_⟩
     .dsimp only;intro h' hh';rw[htk,A1C] at hh';rcases hh' with hh'|hh'
      .exact hP.fr h' hh'
      simp at hh';subst hh';exact⟨hh0,hh1,hfr⟩
     .dsimp only;rw[htk,A1I];refine⟨hP.nd,by simp,fun a ha b hb e=>?_⟩;simp at hb;subst hb;subst e;exact hnk ha
     intro h';dsimp only;rw[htk];unfold Ki;split
     .rename_i e;subst e;simp
     rename_i e;rw[hPse h',A1C];have:¬((h':Int)=(hn:Int)):=by omega
     simp[this]
    refine Zz [8] ?_;refine CJ J J Lg J J J (fun w' hw=>CH _ v 111 w') ?_ ?_
    .rintro _ ⟨rfl,hbf⟩;refine AI<|AQ<|AI<|AI<|AQ<|AI<|AQ<|AI<|AI<|AQ<|?_;refine BR ⟨v,111,J,by decide,fun hok=>?_⟩;have:=((hok.2.2 v l hl).1 h hmem);simp at k12_8 k12_2;omega
    rintro _ h9;cases h9
   refine Zz [14] ?_;refine CJ J J Lg J J J (fun w' hw=>CH _ v 111 w') ?_ ?_
   .rintro _ ⟨rfl,hbf⟩;refine AI<|AQ<|AI<|AI<|AQ<|AI<|AQ<|AI<|AI<|AQ<|?_;refine BR ⟨v,111,J,by decide,fun hok=>?_⟩;have:=((hok.2.2 v l hl).1 h hmem);simp at k12_2;omega
   rintro _ h9;cases h9
  refine AN<|Ag<|Ag<|Aq<|Aa ?_;have hkl:k=l.length:=by simp at c10;omega
  subst hkl;have hPfr:=hP.fr;have hPnd:=hP.nd;dsimp only at hPfr hPnd;rw[A1T] at hPfr hPnd hPse;refine Ak<|Zz [5] ?_;refine Zu (AG J J CA (AK (BB hvlt))) ?_;refine Zz [2] ?_;refine CJ J J Lg J J J (fun w' hw=>CH _ v 113 w') ?_ ?_
  .rintro _ ⟨rfl,hbf⟩;refine AQ<|AI<|AI<|AQ<|?_;refine BR ⟨v,113,J,by decide,fun hok=>?_⟩;have:=(hok.2.2 v l hl).2.2;simp at hbf;exact hbf this
  rintro _ hbt3;have hcnt:(l.length:Int)=Fr es v:=by simpa using hbt3
  refine Az<|An<|Aa<|Ak<|Zz [2]<|Az ?_;refine AB (ChkI.mk (v+1) f2) (by dsimp only;omega) ⟨by dsimp only;omega,?_,?_⟩ ⟨J,J,J,J,J,J,trivial⟩ (Ay _)
  .intro x l' hx hl';dsimp only at hx;rcases A1i.1 hx with hx|rfl
   .exact hd.ok x l' hx hl'
   rw[hl] at hl';cases hl';exact⟨hPfr,hPnd,hcnt⟩
  intro h';dsimp only;rw[hPse h'];constructor
  .rintro(⟨x,l',hx,h1,h2⟩|h1)
   .exact⟨x,l',by omega,h1,h2⟩
   exact⟨v,l,by omega,hl,h1⟩
  rintro⟨x,l',hx,h1,h2⟩;rcases A1i.1 hx with hx|rfl
  .exact .inl ⟨x,l',hx,h1,h2⟩
  rw[hl] at h1;cases h1;exact .inr h2
 refine AN<|Ag<|Ag<|Aq ?_;have hvl:v=rs.length:=by simp at c7;omega
 subst hvl;refine AZ (E':=[]) trivial .nil ?_;refine Ga (.inr J) (BQ (.inr J) J ⟨⟨hV,J,fun x l hl=>hd.ok x l (A1e.1 hl).1 hl⟩,J⟩)
theorem A0L{w0 w w':World}{L0 L:List Chunk}{A:Option Addr}{vs:List Value}(h:Rd w0 A vs)(hO:AR w0 [] w L0)(hw:AR w (AY L0) w' L):Rd w' A vs:=by
 intro j u hj;obtain⟨ad,rfl,hc⟩:=h j u hj;exact⟨ad,J,JS hO hc w' hw⟩
theorem YD{w0 w w':World}{L0 L:List Chunk}{v:Value}{ls:List (List Int)}(h:IM w0 v ls)(hO:AR w0 [] w L0)(hw:AR w (AY L0) w' L):IM w' v ls:=by
 obtain⟨A,cap,rfl,hr,h1,h2,h3⟩:=h;refine⟨A,cap,J,fun i l hi=>?_,h1,h2,h3⟩;obtain⟨ad,lv,rfl,hc,B,cb,rfl,hb,h4⟩:=hr i l hi;exact⟨ad,_,J,JS hO hc w' hw,B,cb,J,A0L hb hO hw,h4⟩
theorem Qn{N:Int}{es:List Pr}{rs:List (List Int)}{va v:Value}{w0 w:World}{ga gb:Nat}(hg:DX w0 va es)(hl:IM w0 v rs)
 (hO:AR w0 [] w [AC gb 86 #[v],AC ga 24 #[Iv N,va]]):
  Calls A1c 181 #[Pv ga,Pv gb] w
   (Nd w (AY [AC gb 86 #[v],AC ga 24 #[Iv N,va]]) (fun _ M=>CO N es rs) (fun pv M=>∃x e,pv=flt x e/\(e≠0/\¬CO N es rs))):=by
 refine FP (args:=[_,_]) Tryz.func181 J Tryz.ntmps181 J hO.self<|Ak ?_;refine CR [_,_] ?_;refine Zl ag86 ?_;refine GQ J J en182 J J J (Lc:=[]) (F:=[AC gb 86 #[v],AC ga 24 #[Iv N,va]]) (.refl _) (fun k hk=>by simp at hk) (fun w' hw=>Ss (N:=N) (rs:=rs) (Mh hg hO hw) (YD hl hO hw)) ?_ ?_
 .rintro _ M ⟨x,e,rfl,hbad⟩;exact BR ⟨x,e,J,hbad⟩
 rintro _ M ⟨hok,rfl⟩;refine Az ?_;refine Ga (.inr J) (BQ (.inr J) J hok)
theorem SU{N:Int}{es:List Pr}{rs:List (List Int)}{va v:Value}{w:World}(hg:DX w va es)(hl:IM w v rs):
  Calls A1c 172 #[.agg #[Iv N,va],v] w (Ret w [] fun r M=>M=[]/\∃x e,r= .tuple #[Iv x,Iv e]/\(e=0↔CO N es rs)):=by
 have hg0:=hg;have hl0:=hl;obtain⟨A,cap,rfl,hr,hlc,hcm,hle⟩:=hg;obtain⟨B,capb,rfl,hrb,hlb,hcb,hleb⟩:=hl;refine cO Tryz.func172 Tryz.ntmps172<|Zs ?_;refine ZB fun g2=>?_;refine ZB fun g3=>?_;refine Zz [2]<|Zx<|Ai ?_;let ca:=AC g3 86 #[.slice B rs.length capb];let cb:=AC g2 24 #[Iv N,.slice A es.length cap];refine DC.own (M:=[ca,cb]) (fun w hw=>hw)<|Ak ?_;refine Zo (Fu J J J) ?_;refine AU J J (BT en75 J J J (Lc:=[ca,cb]) (F:=[]) (.refl _) (fun k hk=>hk)
  (fun w' hw=>J8 (cap:=#[Pv g2,Pv g3]) (C:=fun M=>CO N es rs)
   (D:=fun v e M=>e≠0/\¬CO N es rs) en181 hw.self (fun w'' hw''=>Qn hg0 hl0 (by simpa using AR.frame (F:=[]) (by simpa using hw) hw'' (fun k hk=>hk))))) ?_;rintro v12 _ ⟨M,hC,rfl⟩;have hD:∃v e,v12= .tuple #[Iv v,Iv e]/\(e=0↔CO N es rs):=by
  rcases hC with⟨rfl,hC⟩|⟨v,e,rfl,hC⟩
  .exact⟨0,0,J,by simp[hC]⟩
  exact⟨v,e,J,by simp[hC.1,hC.2]⟩
 clear hC;obtain⟨xv,xe,rfl,hD⟩:=hD;refine Zz [4]<|Zx<|At ?_;refine Lm 4 5 ?_;refine Bq (.inl J) J J J ?_;exact⟨J,xv,xe,J,hD⟩
def Dj(rs:List (List Int))(v:Nat)(f:Nat->Int):Prop:=∀(x:Nat) l (i:Nat) h,x<v->rs[x]? =some l->l[i]? =some h->l[(i+1)%l.length]? =some (f h.toNat)
structure NxI where
 v:Nat
 f:Nat->Int
theorem Uu{N:Int}{es:List Pr}{rs:List (List Int)}{va v:Value}{w:World}(hg:DX w va es)(hl:IM w v rs):
  Calls A1c 145 #[.agg #[Iv N,va],v] w (Ret w [] fun r M=>
   (CO N es rs/\∃g f,r= .tuple #[.slice (So g) (es.length*2) (es.length*2),Iv 0]/\Dj rs rs.length f/\M=[AC g 3 (AA (BA (es.length*2) f)).toArray])\/
   (¬CO N es rs/\M=[]/\∃e,r= .tuple #[Nv,Iv e]/\e≠0)):=by
 have hg0:=hg;have hl0:=hl;obtain⟨A,cap,rfl,hr,hlc,hcm,hle⟩:=hg;obtain⟨B,capb,rfl,hrb,hlb,hcb,hleb⟩:=hl;refine cO Tryz.func145 Tryz.ntmps145<|Zs ?_;refine ZB fun g2=>?_;refine Zz [2]<|Zx<|Ai<|Zs ?_;refine CR [_,_] ?_;refine Zm ?_;refine AL J J (AH en172 J J J (fun w' hw=>SU (hg0.keep0 hw) (hl0.keep0 hw))) ?_;rintro _ ⟨xv,xe,rfl,hxe⟩;refine Zz [5]<|Zx<|Zs ?_;refine Zz [2]<|Zx ?_;refine Zd ?_ ?_<;>intro c2
 .refine Zs<|Zz [3]<|Zx<|At<|Ad ?_;refine Lm 4 5 ?_;refine Bq (.inl J) J J J ?_;have hne:xe≠0:=by simpa using c2
  exact .inr ⟨fun h=>hne (hxe.2 h),J,xe,J,hne⟩
 refine Ao<|Aa<|Ai ?_;have hok:CO N es rs:=hxe.1 (by simpa using c2);obtain⟨hV,hN,hrow⟩:=id hok;have hfew:=hV.few;refine Ak<|Zz [1,1] ?_;refine Zo (Dz J J J (by omega)) ?_;refine Zw (B6 (k:=es.length*2) J J J A1x Bw Fz C6 (by omega) (by omega) (by omega) (BS _)) fun g26=>?_;refine Za<|Zx<|Ai<|Zs ?_;refine Zz [3]<|Zx<|As ?_;refine AS (ι:=NxI) (fun j=>j.v<=rs.length/\Dj rs j.v j.f)
  (fun j=>[(8,.slice (So g26) (es.length*2) (es.length*2)),(27,.slice B rs.length capb),(28,Iv rs.length),(29,Iv j.v)])
  (fun j=>[AC g26 3 (AA (BA (es.length*2) j.f)).toArray]) (fun j=>rs.length-j.v) ⟨0,fun _=>0⟩ ⟨A1E _,fun _ _ _ _ h=>absurd h (A1w _)⟩ ⟨J,J,J,J,trivial⟩ (Bg .nil) ?_;rintro⟨v,f⟩ ⟨hv,hd⟩;dsimp only at hv hd ⊢;refine Zs<|Zc<|Zx<|Ai ?_;refine Zd ?_ ?_<;>intro c6
 .have hvlt:v<rs.length:=by simpa using c6
  obtain⟨l,hl⟩:∃l,rs[v]? =some l:=⟨_,A1d hvlt⟩;obtain⟨adb,lv,rfl,hc,Al,capl,rfl,hrl,hl1,hl2,hl3⟩:=hrb v l hl;obtain⟨hfr,hnd,_⟩:=hrow v l hl;refine Ao<|Aa<|Ai<|As<|Zs<|Zi A1z ET ?_;refine Zu (AG J J D8 (A7 hc)) ?_;refine Za<|Zx<|Zs ?_;refine Zz [3]<|Zx<|As ?_;refine AS (ι:=NxI) (fun j=>j.v<=l.length/\Dj rs v j.f/\∀(i:Nat) h,i<j.v->l[i]? =some h->l[(i+1)%l.length]? =some (j.f h.toNat))
   (fun j=>[(8,.slice (So g26) (es.length*2) (es.length*2)),(10,.slice Al l.length capl),(27,.slice (some adb) rs.length capb),(28,Iv rs.length),(29,Iv v),(33,.slice Al l.length capl),(34,Iv l.length),(35,Iv j.v)])
   (fun j=>[AC g26 3 (AA (BA (es.length*2) j.f)).toArray]) (fun j=>l.length-j.v) ⟨0,f⟩ ⟨A1E _,hd,fun _ _ h=>absurd h (A1w _)⟩ ⟨J,J,J,J,J,J,J,J,trivial⟩ (Bg .nil) ?_;rintro⟨k,f2⟩ ⟨hk,hd2,hin⟩;dsimp only at hk hd2 hin ⊢;refine Zs<|Zc<|Zx<|Ai ?_;refine Zd ?_ ?_<;>intro c9
  .have hklt:k<l.length:=by simpa using c9
   obtain⟨h,hh⟩:∃h,l[k]? =some h:=⟨_,A1d hklt⟩;obtain⟨hh0,hh1,hh2⟩:=hfr h (A1h hh);obtain⟨adl,rfl,hch⟩:=hrl.int hh;have hml:(k+1)%l.length<l.length:=A3y _ (by omega);obtain⟨h',hh'⟩:∃h',l[(k+1)%l.length]? =some h':=⟨_,A1d hml⟩;obtain⟨adl',e,hch'⟩:=hrl.int hh';cases e;have emod:((k:Int)+1)%(l.length:Int)=(((k+1)%l.length:Nat):Int):=by rw[Int.natCast_emod,Int.natCast_add];rfl
   refine Ao<|Aa<|Ai<|As<|Zs<|Zm ?_;refine Zi A1x Bw ?_;refine Zu (AG J J CA (A7 hch)) ?_;refine Zz [2]<|Zx<|Ak ?_;refine Zz [7] ?_;refine Zo (Ye (j:=(l.length:Int)) J J J (by omega) (by omega)) ?_;rw[emod];refine Zi A1x Bw ?_;refine Zu (AG J J CA (A7 hch')) ?_;refine Zz [1] ?_;refine Zy (AP (cs':=(AA (BA (es.length*2) (upd f2 h.toNat h'))).toArray) J J J Bw J (by simp;omega) BU)<|Az<|An<|Aa<|Ak ?_;refine Zz [2]<|Az ?_;refine AB (NxI.mk (k+1) (upd f2 h.toNat h')) (by dsimp only;omega) ⟨by dsimp only;omega,?_,?_⟩ ⟨J,J,J,J,J,J,J,J,trivial⟩ (Bg .nil)
   .intro x l' i h2 hx hl' hi2;dsimp only;unfold upd;rw[if_neg ?_]
    .exact hd2 x l' i h2 hx hl' hi2
    intro e;obtain⟨h4,h5,h6⟩:=(hrow x l' hl').1 h2 (A1h hi2);have:h2=h:=by omega
    subst this;omega
   intro i h2 hi2 hl2;dsimp only at hi2 ⊢;unfold upd;split
   .rename_i e;have h4:=(hfr h2 (A1h hl2)).1;have:h2=h:=by omega
    subst this;have:i=k:=(A3x (by have:=(A1e.1 hl2).1;exact this) hnd).1 (hl2.trans hh.symm);subst this;exact hh'
   rename_i e;rcases A1i.1 hi2 with hi2|rfl
   .exact hin i h2 hi2 hl2
   rw[hh] at hl2;cases hl2;exact absurd rfl e
  refine AN<|Ag<|Ag<|Aq<|An<|Aa<|Ak<|Zz [2]<|Az ?_;have hkl:k=l.length:=by simp at c9;omega
  subst hkl;refine AB (NxI.mk (v+1) f2) (by dsimp only;omega) ⟨by dsimp only;omega,?_⟩ ⟨J,J,J,J,trivial⟩ (Bg .nil);intro x l' i h2 hx hl' hi2;dsimp only at hx ⊢;rcases A1i.1 hx with hx|rfl
  .exact hd2 x l' i h2 hx hl' hi2
  rw[hl] at hl';cases hl';exact hin i h2 (A1e.1 hi2).1 hi2
 refine AN<|Ag<|Ag<|Aq<|Aa<|Zs<|Zz [3]<|Zx<|At ?_;refine Bq (.inl J) J J J ?_;have hvl:v=rs.length:=by simp at c6;omega
 subst hvl;exact .inl ⟨hok,g26,f,J,hd,J⟩
def FA(pl:Bool)(ls:List (List Int))(cs:List Pr):Prop:=IE pl ls cs/\(K5 pl ls cs).length<=33554432
theorem RB{pl:Bool}{N:Int}{ls:List (List Int)}{cs:List Pr}{va v u:Value}{w:World}(hv:IM w v ls)(hu:DX w u cs)(hp:Qh w)(hs:∀l,l∈ls->l.length<=33554432):
  Calls A1c 17 #[.agg #[Iv N,va],.agg #[.bool pl,v,u]] w (Ret w [] fun r L=>L=[]/\∃b,r= .bool b/\(b=true↔FA pl ls cs)):=by
 refine cO Tryz.func17 Tryz.ntmps17<|Zs ?_;refine ZB fun g2=>?_;refine ZB fun g3=>?_;refine Za<|Zx<|Zs ?_;refine CR [_,_,_] ?_;refine AL J J (AH en30 J J J (fun w' hw=>SN (hv.keep0 hw) (hu.keep0 hw) (hp.keep0 hw) hs)) ?_;rintro _ ⟨s,e,rfl,hse⟩;refine Zz [5]<|Zx<|Zs ?_;refine Zz [3]<|Zx<|At ?_;refine DN 4 ?_;refine Zh ?_;refine⟨J,_,J,?_⟩;unfold FA;rcases hse with⟨rfl,h1,h2,_⟩|⟨rfl,h1,_⟩|⟨rfl,h1,h2,_⟩
 .simp[h1,h2]
 .simp[h1]
 simp[h1];omega
theorem QG{pl:Bool}{N:Int}{es:List Pr}{ls:List (List Int)}{va v u:Value}{w:World}(hg:DX w va es)(hv:IM w v ls):
  Calls A1c 18 #[.agg #[Iv N,va],.agg #[.bool pl,v,u]] w (Ret w [] fun r L=>L=[]/\∃b,r= .bool b/\(b=true↔DD N es ls)):=by
 refine cO Tryz.func18 Tryz.ntmps18<|Zs ?_;refine ZB fun g2=>?_;refine ZB fun g3=>?_;refine Za<|Zx<|Zs ?_;refine CR [_,_] ?_;refine Zz [1,0] ?_;refine Bk J J (AH en31 J J J (fun w' hw=>K6 (hg.keep0 hw) (hv.keep0 hw))) ?_;intro v12 L12 hC12;obtain⟨x0,x1,e,rfl,he⟩:∃x0 x1 e,v12= .tuple #[x0,x1,Iv e]/\(e=0↔DD N es ls):=by
  rcases hC12 with⟨hok,g,rs,rfl,_⟩|⟨hno,_,x,e,rfl,hne⟩
  .exact⟨_,_,_,J,by simp[hok]⟩
  exact⟨_,_,_,J,by simp[hno,hne]⟩
 clear hC12;refine Zz [7]<|Zx<|Zs ?_;refine Zz [3]<|Zx<|At ?_;refine DN 4 ?_;refine Zh ?_;exact⟨J,_,J,by simpa using he⟩
def NumR(es cs:List Pr)(ns:List Int):Prop:=ns.length=cs.length/\∀(j:Nat) c m,cs[j]? =some c->ns[j]? =some m->(m= -1/\c∉es)\/∃i:Nat,m=i/\es[i]? =some c
def NumM(es:List Pr)(i:Nat)(f:Pr->Option Value):Prop:=∀p,(f p=none/\p∉es.take i)\/∃k:Nat,k<i/\es[k]? =some p/\f p=some (Iv ((k:Int)+1))
structure NumbI where
 i:Nat
 m:List (Pr×Value)
structure NumbJ where
 i:Nat
 ns:List Int
theorem H5{pl:Bool}{N:Int}{es cs:List Pr}{va v u:Value}{w:World}(hg:DX w va es)(hu:DX w u cs):
  Calls A1c 33 #[.agg #[Iv N,va],.agg #[.bool pl,v,u]] w (Ret w [] fun r M=>∃g ns,r= Sv g cs.length/\NumR es cs ns/\M=[AC g 3 (AA ns).toArray]):=by
 obtain⟨A,cap,rfl,hr,hlc,hcm,hle⟩:=hg;obtain⟨B,capb,rfl,hrb,hlb,hcb,hleb⟩:=hu;refine cO Tryz.func33 Tryz.ntmps33<|Zs ?_;refine ZB fun g2=>?_;refine ZB fun g3=>?_;refine Za<|Zx<|Zs ?_;refine Bk J J (GI (enc:=encP) J) ?_;rintro _ _ ⟨gm,rfl,rfl⟩;simp only[zs];refine Za<|Zx<|Ai<|Zs ?_;refine Zz [1,2]<|Zx<|As ?_;refine AS (ι:=NumbI) (fun j=>j.i<=es.length/\NumM es j.i (HP j.m))
  (fun j=>[(3,Pv g3),(5,.map (some gm)),(13,.slice A es.length cap),(14,Iv es.length),(15,Iv j.i)])
  (fun j=>[Ej encP gm j.m,AC g3 27 #[.bool pl,v,.slice B cs.length capb]]) (fun j=>es.length-j.i) ⟨0,[]⟩ ⟨A1E _,fun p=>.inl ⟨J,by simp⟩⟩ ⟨J,J,J,J,J,trivial⟩ (Bg (Bg .nil)) ?_;rintro⟨i,m⟩ ⟨hi,hm⟩;dsimp only at hi hm ⊢;refine Zs<|Zc<|Zx<|Ai ?_;refine Zd ?_ ?_<;>intro c3
 .have hlt:i<es.length:=by simpa using c3
  obtain⟨e,he⟩:∃e,es[i]? =some e:=⟨_,A1d hlt⟩;obtain⟨ad,rfl,hU,hVe⟩:=hr.pair he;refine Ao<|Aa<|Ai<|As<|Zs<|Zm ?_;refine Zo (Bz J J J A1y CF (by omega) (by omega) (by first|exact AX _ _|exact Cm _ _ _|rfl)) ?_;refine Zu (A4 (vs:=[_,_]) J J Hw CF J (Fm hU hVe (by simp))) ?_;refine ZA Fs fun g7=>?_;refine Za ?_;refine Zq #[_,_]<|Zx<|Ak ?_;refine Zm ?_;refine CR [_,_] ?_;refine Zz [2] ?_;refine Zy (Dm (k:=e) 1 J Vb J J J J Tryz.underlying182 J)<|Az<|An<|Aa<|Ak ?_;refine Zz [2]<|Az ?_;refine AB ⟨i+1,EA e (Iv ((i:Int)+1)) m⟩ (by dsimp only;omega) ⟨by dsimp only;omega,?_⟩ ⟨J,J,J,J,J,trivial⟩ (BC (BC .nil));intro p;dsimp only;rw[Hh];by_cases hp:p=e
  .subst hp;rw[if_pos rfl];exact .inr ⟨i,by omega,he,J⟩
  rw[if_neg hp];rcases hm p with⟨h1,h2⟩|⟨k,h1,h2,h3⟩
  .refine .inl ⟨h1,?_⟩;rw[A1W,he,A1C];simp[h2,hp]
  exact .inr ⟨k,by omega,h2,h3⟩
 refine AN<|Ag<|Ag<|Aq<|Aa<|Ai ?_;have hie:i=es.length:=by simp at c3;omega
 subst hie;refine Ak<|Zz [1,1] ?_;refine Zw (B6 (k:=cs.length) (cs:=(AA (List.replicate cs.length 0)).toArray) J J J A1x Bw Fz C6 J (by omega) (by omega) (Om _)) fun g28=>?_;refine Za<|Zx<|Ai<|Zs ?_;refine Zz [1,2]<|Zx<|As ?_;refine AS (ι:=NumbJ) (fun j=>j.i<=cs.length/\j.ns.length=cs.length/\∀(q:Nat) c x,q<j.i->cs[q]? =some c->j.ns[q]? =some x->(x= -1/\c∉es)\/∃i:Nat,x=i/\es[i]? =some c)
  (fun j=>[(5,.map (some gm)),(8,Sv g28 cs.length),(30,.slice B cs.length capb),(31,Iv cs.length),(32,Iv j.i)])
  (fun j=>[Ej encP gm m,AC g28 3 (AA j.ns).toArray]) (fun j=>cs.length-j.i) ⟨0,List.replicate cs.length 0⟩ ⟨A1E _,by simp,fun _ _ _ h=>absurd h (A1w _)⟩ ⟨J,J,J,J,J,trivial⟩ (BC (Bg .nil)) ?_;rintro⟨i,ns⟩ ⟨hi2,hns,hn⟩;dsimp only at hi2 hns hn ⊢;refine Zs<|Zc<|Zx<|Ai ?_;refine Zd ?_ ?_<;>intro c9
 .have hlt:i<cs.length:=by simpa using c9
  obtain⟨c,hc⟩:∃c,cs[i]? =some c:=⟨_,A1d hlt⟩;obtain⟨adb,rfl,hU,hVe⟩:=hrb.pair hc;refine Ao<|Aa<|Ai<|As<|Zs<|Zm ?_;refine Zo (Bz J J J A1y CF (by omega) (by omega) (by first|exact AX _ _|exact Cm _ _ _|rfl)) ?_;refine Zu (A4 (vs:=[_,_]) J J Hw CF J (Fm hU hVe (by simp))) ?_;refine ZA Fs fun g10=>?_;refine Za ?_;refine Zq #[_,_]<|Zx<|Ak ?_;refine Zz [3] ?_;refine CR [_,_] ?_;obtain⟨x,hx,hx0,hx1,hxr⟩:∃x:Int,(if false then(.tuple #[(HP m c).getD (Iv 0),.bool (HP m c).isSome]:Value) else(HP m c).getD (Iv 0))= Iv x/\0<=x/\x<=es.length/\((x-1= -1/\c∉es)\/∃i:Nat,x-1=i/\es[i]? =some c):=by
   rcases hm c with⟨h1,h2⟩|⟨k,h1,h2,h3⟩
   .exact⟨0,by rw[h1];rfl,by omega,by omega,.inl ⟨J,by simpa using h2⟩⟩
   exact⟨(k:Int)+1,by rw[h3];rfl,by omega,by omega,.inr ⟨k,by omega,h2⟩⟩
  refine Zu (Fd (k:=c) 1 J Vb J J J Tryz.underlying182 C6 hx) ?_;refine Zz [2] ?_;refine Zy (AP (cs':=(AA (ns.set i (x-1))).toArray) J J J Bw J (by simp;omega) BP)<|Az<|An<|Aa<|Ak ?_;refine Zz [2]<|Az ?_;refine AB ⟨i+1,ns.set i (x-1)⟩ (by dsimp only;omega) ⟨by dsimp only;omega,by simp[hns],?_⟩ ⟨J,J,J,J,J,trivial⟩ (BC (BC .nil));intro q c' x' hq hc' hx';dsimp only at hq hx';rw[A3k] at hx';split at hx'
  .rename_i e;subst e;rw[if_pos (by omega)] at hx';cases hx';rw[hc] at hc';cases hc';exact hxr
  exact hn q c' x' (by omega) hc' hx'
 refine AN<|Ag<|Ag<|Aq<|Aa<|Zs<|Zz [2]<|Zx<|At ?_;have hie:i=cs.length:=by simp at c9;omega
 subst hie;refine AZ (E':=[(4,_)]) ⟨J,trivial⟩ (BC .nil) ?_;refine Zh ?_;exact⟨g28,ns,J,⟨hns,fun j c x hj hx=>hn j c x (A1e.1 hj).1 hj hx⟩,J⟩
section
open Classical
def VH(es:List Pr)(h:Int):Prop:=0<=h/\h<es.length*2
def Cg(es:List Pr)(v:Int):Nat:=(Bs es v).length
def Gd(es:List Pr)(h:Int):Int:=
 if((Bs es (AD es h))[0]?).getD (-1)=tw h then((Bs es (AD es h))[1]?).getD (-1) else((Bs es (AD es h))[0]?).getD (-1)
def Zk(es:List Pr)(b h:Int):Prop:=Cg es (AD es h)=2/\AD es h≠b
def wI(es:List Pr)(h:Int):Nat->Int
 | 0=>h
 | k+1=>Gd es (wI es h k)
structure Xm (es:List Pr) (h:Int) (t:Nat):Prop where
 vh:VH es h
 cont:∀i,i<t->Zk es (Aj es h) (wI es h i)
def GA(es:List Pr)(h:Int)(t:Nat):List Int:=(List.range (t+1)).map (wI es h)
structure Ke (es:List Pr) (h:Int) (t:Nat):Prop where
 way:Xm es h t
 stop:¬Zk es (Aj es h) (wI es h t)
section
variable{N:Int}{es:List Pr}{h k:Int}
theorem E2:∀{a b:List Int},a.Nodup->(∀x,x∈a->x∈b)->a.length<=b.length
 | [],b,_,_=>by simp
 | x::r,b,hn,hs=>by
  rw[A1Z] at hn;have hx:x∈b:=hs x (by simp);have ih:=E2 (a:=r) (b:=b.erase x) hn.2 (fun y hy=>(List.mem_erase_of_ne (fun e=>hn.1 (by rw[<-e];exact hy))).2 (hs y (by simp[hy])));have:=List.length_erase_of_mem hx;have:=A3m hx;simp only[A2a];omega
theorem VH.tw(hh:VH es h):VH es (tw h):=FW hh.1 hh.2
theorem QF(h:Int):tw h≠h:=by unfold tw;split<;>omega
theorem GZ{h k:Int}(e:tw h=tw k):h=k:=by rw[<-DK h,e,DK]
theorem BL(hh:VH es h):Aj es (tw h)=AD es h:=by unfold AD;rw[if_pos hh.1]
theorem Ef(hh:VH es h):AD es (tw h)=Aj es h:=by unfold AD;rw[if_pos hh.tw.1,DK]
theorem E0(v:Int):(Bs es v).Nodup:=by
 have:=(Hc es 0 v).1;exact this.imp fun h=>by omega
theorem DU(hV:BX N es)(hh:VH es h)(hd:Cg es (AD es h)=2):
  VH es (Gd es h)/\Aj es (Gd es h)=AD es h/\Gd es h≠tw h/\Gd es h∈Bs es (AD es h)/\∀y,y∈Bs es (AD es h)->y=Gd es h\/y=tw h:=by
 have hm:tw h∈Bs es (AD es h):=(Bb hV).2 ⟨hh.tw.1,hh.tw.2,BL hh⟩;have hn:=E0 (es:=es) (AD es h);unfold Cg at hd
 match ho:Bs es (AD es h),hd with
 | [a,b],_=>
  rw[ho] at hm hn;have hab:a≠b:=by
   rw[A1Z] at hn;intro e;exact hn.1 (by simp[e])
  have key:Gd es h=if a=tw h then b else a:=by unfold Gd;rw[ho];rfl
  have hmem:∀x,x∈[a,b]->VH es x/\Aj es x=AD es h:=fun x hx=>by
   rw[<-ho] at hx;obtain⟨h1,h2,h3⟩:=(Bb hV).1 hx;exact⟨⟨h1,h2⟩,h3⟩
  rw[key];by_cases e:a=tw h
  .rw[if_pos e];obtain⟨q1,q2⟩:=hmem b (by simp);refine⟨q1,q2,by rw[<-e];exact hab.symm,by simp,fun y hy=>?_⟩;simp at hy;rcases hy with rfl|rfl
   .exact .inr e
   exact .inl rfl
  rw[if_neg e];obtain⟨q1,q2⟩:=hmem a (by simp);have hb:b=tw h:=by
   simp at hm;rcases hm with rfl|rfl
   .exact absurd rfl e
   rfl
  refine⟨q1,q2,e,by simp,fun y hy=>?_⟩;simp at hy;rcases hy with rfl|rfl
  .exact .inl rfl
  exact .inr hb
theorem U2(hV:BX N es)(hh:VH es h)(hk:VH es k)(hd:Cg es (AD es h)=2)(hd':Cg es (AD es k)=2)(e:Gd es h=Gd es k):h=k:=by
 obtain⟨a1,a2,a3,a4,a5⟩:=DU hV hh hd;obtain⟨b1,b2,b3,b4,b5⟩:=DU hV hk hd';have hto:AD es h=AD es k:=by rw[<-a2,e,b2]
 have hm:tw h∈Bs es (AD es k):=by rw[<-hto];exact(Bb hV).2 ⟨hh.tw.1,hh.tw.2,BL hh⟩
 rcases b5 _ hm with h1|h1
 .exact absurd (e.trans h1.symm) a3
 exact GZ h1
section
variable{t:Nat}
theorem Xm.all(hV:BX N es)(hw:Xm es h t):∀i,i<=t->VH es (wI es h i)
 | 0,_=>hw.vh
 | i+1,hi=>(DU hV (hw.all hV i (by omega)) (hw.cont i (by omega)).1).1
theorem Xm.link(hV:BX N es)(hw:Xm es h t){i:Nat}(hi:i<t):Aj es (wI es h (i+1))=AD es (wI es h i):=
 (DU hV (hw.all hV i (by omega)) (hw.cont i hi).1).2.1
theorem Xm.ne(hV:BX N es)(hw:Xm es h t):∀i j,i<j->j<=t->wI es h i≠wI es h j
 | 0,j+1,_,hj=>fun e=>by
  have h1:=hw.link hV (i:=j) (by omega);rw[<-e] at h1;exact(hw.cont j (by omega)).2 h1.symm
 | i+1,j+1,hij,hj=>fun e=>
  hw.ne hV i j (by omega) (by omega) (U2 hV (hw.all hV i (by omega)) (hw.all hV j (by omega)) (hw.cont i (by omega)).1 (hw.cont j (by omega)).1 e)
theorem Xm.lt(hV:BX N es)(hw:Xm es h t):t<es.length*2:=by
 have hnd:(GA es h t).Nodup:=by
  unfold GA List.Nodup;rw[A2b,A2t];intro i j hi hj hij;simp only[A2m] at hi hj;simp only[List.getElem_range];exact hw.ne hV i j hij (by omega)
 have:=E2 (b:=(List.range (es.length*2)).map fun(x:Nat)=>(x:Int)) hnd fun x hx=>by
  obtain⟨i,hi,rfl⟩:=A1G.1 hx;have h1:=hw.all hV i (by have:=A1r.1 hi;omega);obtain⟨h2,h3⟩:=h1;exact A1G.2 ⟨(wI es h i).toNat,A1r.2 (by omega),by omega⟩
 simp[GA] at this;omega
theorem Xm.ne_tw'(hV:BX N es)(hw:Xm es h t):∀d a,a+d<=t->wI es h (a+d)≠tw (wI es h a)
 | 0,a,_=>fun e=>QF _ e.symm
 | 1,a,hb=>(DU hV (hw.all hV a (by omega)) (hw.cont a (by omega)).1).2.2.1
 | d+2,a,hb=>fun e=>by
  have ha:=hw.all hV a (by omega);have hb':=hw.all hV (a+d+1) (by omega);obtain⟨a1,a2,a3,a4,a5⟩:=DU hV ha (hw.cont a (by omega)).1;have h1:=hw.link hV (i:=a+d+1) (by omega);rw[show a+d+1+1=a+(d+2) by omega,e,BL ha] at h1;have hm:tw (wI es h (a+d+1))∈Bs es (AD es (wI es h a)):=by rw[h1];exact(Bb hV).2 ⟨hb'.tw.1,hb'.tw.2,BL hb'⟩
  rcases a5 _ hm with h2|h2
  .refine hw.ne_tw' hV d (a+1) (by omega) ?_;rw[show a+1+d=a+d+1 by omega];show _=tw (Gd es (wI es h a));rw[<-h2,DK]
  exact hw.ne hV a (a+d+1) (by omega) (by omega) (GZ h2).symm
theorem Xm.ne_tw(hV:BX N es)(hw:Xm es h t){a b:Nat}(ha:a<=t)(hb:b<=t):wI es h a≠tw (wI es h b):=by
 rcases Nat.le_total b a with h1|h1
 .have:=hw.ne_tw' hV (a-b) b (by omega);rw[show b+(a-b)=a by omega] at this;exact this
 intro e;have:=hw.ne_tw' hV (b-a) a (by omega);rw[show a+(b-a)=b by omega] at this;exact this (by rw[e,DK])
theorem Ke.uniq{s:Nat}(h1:Ke es h t)(h2:Ke es h s):t=s:=by
 rcases Nat.lt_trichotomy t s with c|c|c
 .exact absurd (h2.way.cont t c) h1.stop
 .exact c
 exact absurd (h1.way.cont s c) h2.stop
theorem XL(hV:BX N es)(hh:VH es h):∃t,Ke es h t:=by
 apply Classical.byContradiction;intro hno;have:∀t,Xm es h t:=by
  intro t
  induction t with
  | zero=>exact⟨hh,fun i hi=>absurd hi (A1w _)⟩
  | succ t ih=>
   refine⟨hh,fun i hi=>?_⟩;rcases A1i.1 hi with h1|rfl
   .exact ih.cont i h1
   apply Classical.byContradiction;intro hc;exact hno ⟨i,ih,hc⟩
 have:=(this (es.length*2)).lt hV;omega
end
noncomputable def Cb(es:List Pr)(h:Int):Nat:=if e:∃t,Ke es h t then e.choose else 0
noncomputable def BZ(es:List Pr)(h:Int):List Int:=GA es h (Cb es h)
theorem BI(hV:BX N es)(hh:VH es h):Ke es h (Cb es h):=by
 have e:=XL hV hh;unfold Cb;rw[dif_pos e];exact e.choose_spec
theorem Lp{t:Nat}(hs:Ke es h t):Cb es h=t:=by
 have e:∃t,Ke es h t:=⟨t,hs⟩;unfold Cb;rw[dif_pos e];exact e.choose_spec.uniq hs
/-! ### lists of half-edges that hang together -/
def Lk(es:List Pr)(l:List Int):Prop:=∀(i:Nat) x y,l[i]? =some x->l[i+1]? =some y->Aj es y=AD es x
def NO(es:List Pr)(l:List Int):Prop:=∀x,x∈l->VH es x
def CI(l:List Int):List Int:=l.reverse.map tw
theorem FU(h:Int)(t:Nat):(GA es h t).length=t+1:=by simp[GA]
theorem Jr{t i:Nat}(hi:i<=t):(GA es h t)[i]? =some (wI es h i):=by simp[GA,show i<t+1 by omega]
theorem NR(h:Int)(t:Nat):GA es h (t+1)=GA es h t++[Gd es (wI es h t)]:=by unfold GA;rw[A2p,A1Y];rfl
theorem LU(hV:BX N es){t:Nat}(hw:Xm es h t):Lk es (GA es h t):=by
 intro i x y hx hy;have hi:i+1<t+1:=by have:=(A1e.1 hy).1;rwa [FU] at this
 rw[Jr (by omega)] at hx hy;cases hx;cases hy;exact hw.link hV (by omega)
theorem GW(hV:BX N es){t:Nat}(hw:Xm es h t):NO es (GA es h t):=by
 intro x hx;obtain⟨i,hi,rfl⟩:=A1G.1 hx;exact hw.all hV i (by have:=A1r.1 hi;omega)
theorem KO{l:List Int}(hl:NO es l):NO es (CI l):=by
 intro x hx;obtain⟨y,hy,rfl⟩:=A1G.1 hx;exact(hl y (A3n.1 hy)).tw
theorem Cr(l:List Int):(CI l).length=l.length:=by simp[CI]
theorem FQ{l:List Int}{i:Nat}(hi:i<l.length):(CI l)[i]? =(l[l.length-1-i]?).map tw:=by
 unfold CI;rw[A1U,List.getElem?_reverse hi]
theorem Un{l:List Int}(ha:NO es l)(hl:Lk es l):Lk es (CI l):=by
 intro i x y hx hy;have hi:i+1<l.length:=by have:=(A1e.1 hy).1;rwa [Cr] at this
 rw[FQ (by omega)] at hx;rw[FQ hi] at hy;obtain⟨x',hx',rfl⟩:=A2o.1 hx;obtain⟨y',hy',rfl⟩:=A2o.1 hy;have:=hl (l.length-1-(i+1)) y' x' hy' (by rw[<-hx'];congr 1;omega);rw[BL (ha _ (A1h hy')),Ef (ha _ (A1h hx')),this]
theorem RJ{a b:List Int}(ha:Lk es a)(hb:Lk es b)(hj:∀x y,a.getLast? =some x->b.head? =some y->Aj es y=AD es x):Lk es (a++b):=by
 intro i x y hx hy;by_cases h1:i+1<a.length
 .rw[A1o (by omega)] at hx;rw[A1o h1] at hy;exact ha i x y hx hy
 by_cases h2:i<a.length
 .rw[A1o h2] at hx;rw[A1p (by omega),show i+1-a.length=0 by omega] at hy;refine hj x y ?_ (by rw[A3J];exact hy);rw[A3z,show a.length-1=i by omega];exact hx
 rw[A1p (by omega)] at hx hy;rw[show i+1-a.length=i-a.length+1 by omega] at hy;exact hb _ x y hx hy
theorem Wt{a:List Int}(ha:Lk es a)(k:Nat):Lk es (a.drop k):=by
 intro i x y hx hy;rw[A2S] at hx hy;exact ha (k+i) x y hx (by rw[<-hy];congr 1)
/-! ### chains -/
def K7(es:List Pr)(e:Nat):Prop:=AD es (wI es (2*e) (Cb es (2*e)))=Aj es (2*(e:Int))/\Cg es (Aj es (2*(e:Int)))=2
noncomputable def BH(es:List Pr)(e:Nat):List Int:=
 if K7 es e then BZ es (2*e) else CI (BZ es (2*e+1)).tail++BZ es (2*e)
theorem Gg{e:Nat}(he:e<es.length):VH es (2*(e:Int)):=⟨by omega,by omega⟩
theorem FV{e:Nat}(he:e<es.length):VH es (2*(e:Int)+1):=⟨by omega,by omega⟩
theorem OY(e:Nat):tw (2*(e:Int))=2*(e:Int)+1:=by unfold tw;rw[if_pos (by omega)]
theorem FS(h:Int):BZ es h≠[]:=by
 intro e;have:=congrArg List.length e;simp[BZ,FU] at this
theorem FT(h:Int):(BZ es h)[0]? =some h:=by unfold BZ;rw[Jr (by omega)];rfl
theorem GX(h:Int):(BZ es h).getLast? =some (wI es h (Cb es h)):=by
 rw[A3z];unfold BZ;rw[FU,Jr (by omega)];rfl
theorem OF(hV:BX N es){e:Nat}(he:e<es.length):NO es (BH es e):=by
 have h1:=GW hV (BI hV (Gg he)).way;have h2:=GW hV (BI hV (FV he)).way;unfold BH;split
 .exact h1
 intro x hx;rcases A1C.1 hx with hx|hx
 .exact KO (fun y hy=>h2 y (List.mem_of_mem_tail hy)) x hx
 exact h1 x hx
theorem Uj(hV:BX N es){e:Nat}(he:e<es.length):Lk es (BH es e):=by
 have h1:=LU hV (BI hV (Gg he)).way;have h2:=LU hV (BI hV (FV he)).way;have a2:=GW hV (BI hV (FV he)).way;unfold BH;split
 .exact h1
 have a3:NO es (BZ es (2*e+1)).tail:=fun y hy=>a2 y (List.mem_of_mem_tail hy);have h3:Lk es (BZ es (2*e+1)).tail:=by rw[<-List.drop_one];exact Wt h2 1
 refine RJ (Un a3 h3) h1 fun x y hx hy=>?_;rw[A3J,FT] at hy;cases hy;rw[A3z,Cr] at hx;have hpos:0<(BZ es (2*e+1)).tail.length:=by
  apply Nat.pos_of_ne_zero;intro h0;rw[h0] at hx;have:=(A1e.1 hx).1;rw[Cr,h0] at this;omega
 rw[FQ (by omega),show(BZ es (2*e+1)).tail.length-1-((BZ es (2*e+1)).tail.length-1)=0 by omega] at hx;obtain⟨z,hz,rfl⟩:=A2o.1 hx;rw[Ef (a3 _ (A1h hz))];have hz':(BZ es (2*e+1))[1]? =some z:=by rw[List.getElem?_tail] at hz;exact hz
 have:=h2 0 _ z (FT _) hz';rw[this,<-OY,Ef (Gg he)]
theorem J6(e:Nat):BH es e≠[]:=by
 unfold BH;split
 .exact FS _
 intro h;exact FS _ (A3A.1 h).2
theorem Uk(e:Nat):(BH es e).getLast? =some (wI es (2*e) (Cb es (2*e))):=by
 unfold BH;split
 .exact GX _
 rw[List.getLast?_append,GX];rfl
noncomputable def JX(es:List Pr)(e:Nat):Int:=Aj es (((BH es e)[0]?).getD (-1))
noncomputable def Le(es:List Pr)(e:Nat):Int:=AD es (wI es (2*e) (Cb es (2*e)))
theorem GV(hV:BX N es)(hh:VH es h):(BZ es h).length<=es.length*2:=by
 have:=(BI hV hh).way.lt hV;unfold BZ;rw[FU];omega
theorem WX(hV:BX N es){e:Nat}(he:e<es.length):(BH es e).length<=es.length*4:=by
 have h1:=GV hV (Gg he);have h2:=GV hV (FV he);unfold BH;split
 .omega
 rw[A1V,Cr,A3K];omega
theorem WM{e:Nat}(hf:K7 es e):JX es e=Le es e:=by
 unfold JX Le BH;rw[if_pos hf,FT];exact hf.1.symm
theorem WL(hV:BX N es){e:Nat}(he:e<es.length)(hf:¬K7 es e):JX es e=AD es (wI es (2*e+1) (Cb es (2*e+1))):=by
 unfold JX BH;rw[if_neg hf];have hst:=BI hV (FV he);have ha:=GW hV hst.way;have hlen:(BZ es (2*e+1)).length=Cb es (2*e+1)+1:=FU _ _;by_cases h0:Cb es (2*e+1)=0
 .have:(BZ es (2*e+1)).tail=[]:=by
   apply A1s;rw[A3K,hlen,h0]
  rw[this];show Aj es ((([]:List Int)++BZ es (2*e))[0]?.getD (-1))=_;rw[A1N,FT,h0];show Aj es (2*(e:Int))=AD es (2*(e:Int)+1);rw[<-OY,Ef (Gg he)]
 rw[A1o (by rw[Cr,A3K,hlen];omega),FQ (by rw[A3K,hlen];omega),A3K,hlen,List.getElem?_tail];have:(BZ es (2*e+1))[Cb es (2*e+1)+1-1-1-0+1]? =some (wI es (2*e+1) (Cb es (2*e+1))):=by
  rw[show Cb es (2*e+1)+1-1-1-0+1=Cb es (2*e+1) by omega];exact Jr (by omega)
 rw[this];exact BL (hst.way.all hV _ (by omega))
noncomputable def FX(es:List Pr):Nat->List Nat
 | 0=>[]
 | k+1=>if ∃e,e∈FX es k/\∃x,x∈BH es e/\x / 2=k then FX es k else FX es k++[k]
theorem O7:∀{k:Nat} {e:Nat},e∈FX es k->e<k
 | 0,e,h=>by cases h
 | k+1,e,h=>by
  unfold FX at h;split at h
  .have:=O7 h;omega
  rcases A1C.1 h with h|h
  .have:=O7 h;omega
  simp at h;omega
theorem L7:∀(k:Nat),(FX es k).length<=k
 | 0=>by simp[FX]
 | k+1=>by
  have:=L7 k;unfold FX;split
  .omega
  simp;omega
end
end
section
open Classical
def srt(a b:Int):Pr:=(min a b,max a b)
theorem QO(a b:Int):srt a b=srt b a:=by unfold srt;rw[Int.min_comm,Int.max_comm]
noncomputable def JW(es:List Pr)(k:Nat):List Pr:=(FX es k).map fun e=>srt (JX es e) (Le es e)
def DQ(es:List Pr)(n:Nat):List Int:=((List.range n).filter fun(v:Nat)=>decide (Cg es (v:Int)≠0/\Cg es (v:Int)≠2)).map fun(v:Nat)=>(v:Int)
def Is:List Int->List Pr
 | []=>[]
 | x::r=>r.map (srt x)++Is r
def LN(S:List Int):List Pr:=(S.take 3).flatMap fun x=>(S.drop 3).map (srt x)
def CB(E:List Pr)(B:List Int):List Int:=(B.filter fun v=>decide (srt (B.headD 0) v∉E))++B.filter fun v=>decide (srt (B.headD 0) v∈E)
def VL(E:List Pr):Prop:=E.Nodup/\∀p,p∈E->p.1≠p.2
theorem Fi:∀{B:List Int} {q:Pr},q∈Is B↔∃(i j:Nat) (x y:Int),i<j/\B[i]? =some x/\B[j]? =some y/\q=srt x y
 | [],q=>by simp[Is]
 | x::r,q=>by
  unfold Is;rw[A1C,Fi,A1G];constructor
  .rintro(⟨y,hy,rfl⟩|⟨i,j,a,b,hij,ha,hb,rfl⟩)
   .obtain⟨j,hj⟩:=A1j.1 hy;exact⟨0,j+1,x,y,by omega,rfl,by simpa using hj,rfl⟩
   exact⟨i+1,j+1,a,b,by omega,by simpa using ha,by simpa using hb,rfl⟩
  rintro⟨i,j,a,b,hij,ha,hb,rfl⟩
  match i,j with
  | 0,j+1=>
   left;simp at ha hb;subst ha;exact⟨b,A1h hb,rfl⟩
  | i+1,j+1=>
   right;exact⟨i,j,a,b,by omega,by simpa using ha,by simpa using hb,rfl⟩
theorem Gj{S:List Int}{q:Pr}:q∈LN S↔∃(i j:Nat) (x y:Int),i<3/\3<=j/\S[i]? =some x/\S[j]? =some y/\q=srt x y:=by
 unfold LN;rw[A1R];constructor
 .rintro⟨x,hx,hq⟩;obtain⟨y,hy,rfl⟩:=A1G.1 hq;obtain⟨i,hi⟩:=A1j.1 hx;obtain⟨j,hj⟩:=A1j.1 hy;rw[A2j] at hi;rw[A2S] at hj;split at hi
  .exact⟨i,3+j,x,y,by omega,by omega,hi,hj,rfl⟩
  cases hi
 rintro⟨i,j,x,y,hi,hj,hx,hy,rfl⟩;refine⟨x,A1j.2 ⟨i,by rw[A2j,if_pos hi];exact hx⟩,A1G.2 ⟨y,A1j.2 ⟨j-3,?_⟩,rfl⟩⟩;rw[A2S,show 3+(j-3)=j by omega];exact hy
theorem A0G{a b c d:Int}(h:srt a b=srt c d):(a=c/\b=d)\/(a=d/\b=c):=by
 unfold srt at h;have h1:=congrArg Prod.fst h;have h2:=congrArg Prod.snd h;simp only at h1 h2;omega
theorem OJ(es:List Pr)(n:Nat):(DQ es n).Nodup:=by
 unfold DQ List.Nodup;rw[A2b];exact(List.Nodup.sublist A1X A2f).imp fun h=>by omega
theorem R7{α:Type}(p q:α->Bool)(hq:∀x,q x= !p x)(l:List α):(l.filter p++l.filter q).Perm l:=by
 have:q=fun x=> !p x:=funext hq;rw[this];exact List.filter_append_perm p l
theorem I0(E:List Pr)(B:List Int):(CB E B).Perm B:=R7 _ _ (fun x=>by by_cases h:srt (B.headD 0) x∈E<;>simp[h]) B
def KP(E:List Pr)(B:List Int)(d:Nat):Prop:=
 VL E/\((B.length=5/\d=4/\(∀q,q∈Is B->q∈E)/\E.length=10)\/(B.length=6/\d=3/\(∀q,q∈LN (CB E B)->q∈E)/\E.length=9))
def HA(n:Nat)(es:List Pr):Prop:=∃d,(∀v,v∈DQ es n->Cg es v=d)/\KP (JW es es.length) (DQ es n) d
end
theorem Kw{es:List Pr}{h:Int}:Gd es h=if((Bs es (AD es h))[0]?).getD (-1)=tw h then((Bs es (AD es h))[1]?).getD (-1) else((Bs es (AD es h))[0]?).getD (-1):=rfl
structure WyI where
 t:Nat
 v:Value
theorem Kh{N:Int}{es:List Pr}{M:Jo}{p:Option Addr}{w:World}{h:Int}(hA:AV w N es M p)(hh:VH es h):
  Calls A1c 150 #[.pointer p,Iv h] w (Ret w [] fun r L=>L=[Bf r 3 1 (AA (BZ es h))]):=by
 have hV:=hA.vld;have hfew:=hV.few;have hst:=BI hV hh;refine cO Tryz.func150 Tryz.ntmps150<|Zs ?_;refine Za<|Zx<|Zs ?_;refine Zz [2] ?_;refine AL J J (AH JY J J J (fun w' hw=>Dw (hA.keep hw) h)) ?_;rintro _ rfl;refine Za<|Zx<|Zs ?_;refine Zm ?_;refine ZL #[_] A1x Bw C6 fun g13=>?_;refine Za<|Zx<|Ai<|Zs ?_;refine Zz [2] ?_;refine AL J J (AH Sf J J J (fun w' hw=>Fp (hA.keep hw) h)) ?_;rintro _ rfl;refine Za<|Zx<|As ?_;refine DC.own (M:=[Bf (Sv g13 1) 3 1 (AA (GA es h 0))]) (fun w hw=>Ca (len:=1) (cap:=1) J (by decide) (by omega) (by omega) J J hw) ?_;refine AS (ι:=WyI) (fun j=>Xm es h j.t)
  (fun j=>[(0,.pointer p),(1,Iv (wI es h j.t)),(5,Iv (Aj es h)),(6,j.v),(7,Iv (AD es (wI es h j.t)))])
  (fun j=>[Bf j.v 3 1 (AA (GA es h j.t))]) (fun j=>es.length*2-j.t) ⟨0,_⟩ ⟨hh,fun i hi=>absurd hi (A1w _)⟩ ⟨J,J,J,J,J,trivial⟩ (Bg .nil) ?_;rintro⟨t,v⟩ hw;dsimp only at hw ⊢;have hlt:=hw.lt hV;have hvh:=hw.all hV t (A1F _);obtain⟨hv0,hv1⟩:=hvh;refine Ai<|Zs<|Zz [2] ?_;refine AL J J (AH Y0 J J J (fun w' hw=>EN (hA.keep hw) _)) ?_;rintro _ rfl;refine Zz [2] ?_;refine AM 21 J (fun k4_4=>?_) (fun k4_4=>?_)
 .refine Zz [4]<|Zx ?_;refine Zd ?_ ?_<;>intro c4
  .have hc:Zk es (Aj es h) (wI es h t):=⟨by simp at k4_4;unfold Cg;omega,by simpa using c4⟩;have hw1:Xm es h (t+1):=⟨hh,fun i hi=>by
    rcases A1i.1 hi with h1|rfl
    .exact hw.cont i h1
    exact hc⟩;have hlt1:=hw1.lt hV;have hvh:=hw.all hV t (A1F _);obtain⟨s1,s2,s3,s4,s5⟩:=DU hV hvh hc.1;refine Ao<|Aa<|Ai<|As<|Zs<|Zm ?_;refine Zo (Pq J J J (by omega)) ?_;refine Za<|Zx<|Zs ?_;refine Zz [2] ?_;refine AL J J (AH en41 J J J (fun w' hw=>K8 (hA.keep hw) _)) ?_;rintro _ rfl;refine Za<|Zx<|Ai<|Zs ?_;refine Zz [3]<|Zx ?_;refine Zd ?_ ?_<;>intro c8
   .refine Ak<|Zz [2] ?_;refine AL J J (AH en45 J J J (fun w' hw=>La (hA.keep hw) _)) ?_;rintro _ ⟨r,rfl,hr,_⟩;have hout0:(Bs es (AD es (wI es h t)))[0]? =some (tw (wI es h t)):=by
     have h1:((Bs es (AD es (wI es h t)))[0]?).getD (-1)=tw (wI es h t):=by
      unfold tw;simpa using c8
     cases hq:(Bs es (AD es (wI es h t)))[0]? with
     | none=>rw[hq] at h1;have:=hvh.tw.1;simp at h1;omega
     | some x=>rw[hq] at h1;simpa using h1
    have hrr:r=wI es h (t+1):=by
     show r=Gd es (wI es h t);rw[Kw,hout0];simp only[A2B,if_true];exact hr _ 0 (by rw[hout0];rfl)
    subst hrr;refine Za<|Zx<|Ak ?_;refine Zz [2] ?_;refine ZL #[_] A1x Bw C6 fun g42=>?_;refine AU J J (Bt J J J A1x Bw Fz C6 J (by decide) (by decide) (PK (BC .nil)) (.inl ⟨_,_,J,AW J⟩) J (CL [_] []) (by simp[FU];omega)) ?_;rintro v43 _ rfl;refine Za<|Az<|An<|Aa<|Ak ?_;refine Zz [2] ?_
    try (
     have hout0:((Bs es (AD es (wI es h t)))[0]?).getD (-1)=wI es h (t+1):=by
      show _=Gd es (wI es h t);rw[Kw,if_neg (by unfold tw;simpa using c8)]
     rw[hout0])
    refine AL J J (AH Sf J J J (fun w' hw=>Fp (hA.keep hw) _)) ?_;rintro _ rfl;refine Za<|Az ?_;refine AB ⟨t+1,v43⟩ (by dsimp only;omega) hw1 ⟨J,J,J,J,J,trivial⟩ (.cons' 0 J (by dsimp only;rw[NR,BW];rfl) .nil)
   refine Ao<|Aa<|Ak<|Zz [2] ?_;refine ZL #[_] A1x Bw C6 fun g42=>?_;refine AU J J (Bt J J J A1x Bw Fz C6 J (by decide) (by decide) (PK (BC .nil)) (.inl ⟨_,_,J,AW J⟩) J (CL [_] []) (by simp[FU];omega)) ?_;rintro v43 _ rfl;refine Za<|Az<|An<|Aa<|Ak ?_;refine Zz [2] ?_
   try (
    have hout0:((Bs es (AD es (wI es h t)))[0]?).getD (-1)=wI es h (t+1):=by
     show _=Gd es (wI es h t);rw[Kw,if_neg (by unfold tw;simpa using c8)]
    rw[hout0])
   refine AL J J (AH Sf J J J (fun w' hw=>Fp (hA.keep hw) _)) ?_;rintro _ rfl;refine Za<|Az ?_;refine AB ⟨t+1,v43⟩ (by dsimp only;omega) hw1 ⟨J,J,J,J,J,trivial⟩ (.cons' 0 J (by dsimp only;rw[NR,BW];rfl) .nil)
  refine AN<|Ag<|Ag<|Aq<|Aa<|Zs<|Zz [2]<|Zx<|At ?_;have hT:Cb es h=t:=Lp ⟨hw,fun⟨h1,h2⟩=>by first|(simp at c4;exact h2 c4)|(unfold Cg at h1;simp at k4_4;omega)⟩;refine AZ (E':=[(4,_)]) (L':=[Bf v 3 1 (AA (GA es h t))]) ⟨J,trivial⟩ (Bg .nil) ?_;refine Zh ?_;unfold BZ;rw[hT]
 refine Zz [4]<|Zx ?_;refine BN J<|AN<|Ag<|Ag<|Aq<|Aa<|Zs ?_;refine Zz [2]<|Zx<|At ?_;have hT:Cb es h=t:=Lp ⟨hw,fun⟨h1,h2⟩=>by first|(simp at c4;exact h2 c4)|(unfold Cg at h1;simp at k4_4;omega)⟩;refine AZ (E':=[(4,_)]) (L':=[Bf v 3 1 (AA (GA es h t))]) ⟨J,trivial⟩ (Bg .nil) ?_;refine Zh ?_;unfold BZ;rw[hT]
def VE(w:World)(v:Value)(xs:List Int):Prop:=
 (∃A c,v= .slice A 0 c/\xs=[])\/∃g off c,v= .slice (some ⟨g,off,none⟩) xs.length c/\xs.length<=c/\c<=9223372036854775807/\∀(j:Nat) x,xs[j]? =some x->w.cell? ⟨g,off+j,none⟩=some (Iv x)
section
variable{w0 w w':World}{K:List Nat}{L F:List Chunk}{v:Value}{xs:List Int}{t:Nat}
theorem VE.keep0(h:VE w0 v xs)(hw:AR w0 [] w L):VE w v xs:=by
 rcases h with h|⟨g,off,c,rfl,h1,h2,h3⟩
 .exact .inl h
 refine .inr ⟨g,off,c,J,h1,h2,fun j x hx=>?_⟩;have hc:=h3 j x hx;rw[hw.oldCell (World.block_lt_of_cell? w0 _ hc) (by simp)];exact hc
theorem Jv(hw:AR w0 K w (Bf v t 1 (AA xs)::F)):VE w v xs:=by
 rcases DA hw with⟨rfl,h,_⟩|⟨g,len,cap,sp,rfl,h1,h2,h3,h4,hO⟩
 .exact .inl ⟨_,_,J,by cases xs;rfl;simp[AA] at h⟩
 simp at h1;subst h1;refine .inr ⟨g,0,cap,J,h2,h3,fun j x hx=>?_⟩;have:=hO.holds _ (A1m ..);rw[cell_of_row w g _ _ t (0,0) this];have hj:=(A1e.1 hx).1;rw[A3u,A2d,A1o (by simpa using hj),MI hx]
theorem VE.drop{A:Option Addr}{len c k:Nat}(h:VE w (.slice A len c) xs)(hk:k<=len):VE w (.slice (if c=k then A else A.map (·.add (k*1))) (len-k) (c-k)) (xs.drop k):=by
 rcases h with⟨A',c',e,rfl⟩|⟨g,off,c',e,h1,h2,h3⟩
 .cases e;obtain rfl:k=0:=by omega
  exact .inl ⟨_,_,J,by simp⟩
 injection e with e1 e2 e3;subst e1 e2 e3;by_cases hl:k=xs.length
 .exact .inl ⟨_,_,by rw[hl,A3j],by rw[hl,A3L]⟩
 rw[if_neg (by omega)];refine .inr ⟨g,off+k,c-k,?_,by rw[A2D];omega,by omega,fun j x hx=>?_⟩
 .rw[A2D]
  congr 1
  simp only[A3M,Addr.add,A3d];by_cases h0:k=0
  .subst h0;simp
  rw[if_neg h0]
 rw[A2S] at hx;rw[A3h];exact h3 _ _ hx
theorem VE.slv(h:VE w v xs)(hf:xs.length<=17592186044416):∃A c,v= .slice A xs.length c/\Rd w A (AA xs):=by
 rcases h with⟨A,c,rfl,rfl⟩|⟨g,off,c,rfl,h1,h2,h3⟩
 .exact⟨A,c,J,fun j u h=>by simp[AA] at h⟩
 refine⟨_,c,J,fun j u hj=>⟨_,J,?_⟩⟩;unfold AA at hj;rw[A1U,A2o] at hj;obtain⟨x,hx,rfl⟩:=hj;have:(⟨g,off,none⟩:Addr).add j=⟨g,off+j,none⟩:=by
  unfold Addr.add;by_cases h0:j=0
  .subst h0;simp
  rw[if_neg h0]
 rw[this];exact h3 j x hx
theorem UV{vs:List Value}{n:Nat}(h:w'.ownsRow w.heap.size t 1 v n vs)(hl:vs.length=n)(hb:RowKit.Below w.heap.size w w'):AR w [] w' [Bf v t 1 vs]:=by
 subst hl;have hB:∀g,g∈v.ownBlock.toList->w.heap.size<=g/\g<w'.heap.size:=by
  intro g hg;rcases h.2 with⟨rfl,_⟩|⟨g',cap,cur,rfl,h1,h2,_⟩
  .simp[Value.ownBlock] at hg
  simp[Value.ownBlock] at hg;subst hg;exact⟨h1,(A1t.1 h2).1⟩
 refine⟨hb.os,hb.tape,hb.output,.inl trivial,hb.size,fun k hk _=>hb.block k hk,?_,fun g hg=>.inr (hB g (by simpa [Bf] using hg)).1,fun g hg=>(hB g (by simpa [Bf] using hg)).2,fun c hc=>?_⟩
 .simp only[idsOf_cons,idsOf_nil,A1O,Bf];cases v.ownBlock<;>simp
 simp at hc;subst hc;show w'.ownsRow 0 t 1 v (vs.length / 1) vs;rw[Nat.div_one];refine⟨h.1,?_⟩;rcases h.2 with h2|⟨g',cap,cur,e,h1,r⟩
 .exact .inl h2
 exact .inr ⟨g',cap,cur,e,A1E _,r⟩
theorem Id(hv:VE w v xs)(hl:xs.length<=17592186044416):
  Calls A1c 153 #[v] w (Ret w [] fun r L=>L=[Bf r 3 1 (AA xs)]):=by
 rcases hv with⟨A,c,rfl,rfl⟩|⟨g,off,c,rfl,h1,h2,h3⟩
 .cases A with
  | none=>
   refine(Tryz.slices_Clone_int_nil 0 c w).mono ?_;rintro e w' ⟨rfl,rfl⟩;exact⟨_,_,J,J,Ck (B8 _ _)⟩
  | some a=>
   refine(Tryz.slices_Clone_int_zero a c w).mono ?_;rintro e w' ⟨v',rfl,h1,_,h2⟩;exact⟨_,_,J,J,UV h1 J h2⟩
 refine(Tryz.slices_Clone_int g off xs.length c xs w (A1F _) (by omega) (fun j hj=>?_)).mono ?_
 .rw[List.getD_eq_getElem?_getD,A1d hj];exact h3 j _ (A1d hj)
 rintro e w' ⟨v',rfl,h4,_,h5⟩;rw[A1T] at h4;exact⟨_,_,J,J,UV h4 (by simp) h5⟩
theorem UX{g:Nat}{cs:Array Value}(hg:w.heap[g]? =some (.cells cs t (0,0)))(f:Array Value->Array Value)(k:Nat):AR w [g] (Sort.mapBlock (Sort.ahead w k) g f) [AC g t (f cs)]:=by
 have hlt:g<w.heap.size:=(A1t.1 hg).1;refine⟨J,J,J,.inl trivial,by simp[Sort.mapBlock,Sort.ahead],fun k hk hn=>?_,by simp[AC],fun x hx=>?_,fun x hx=>?_,fun c hc=>?_⟩
 .simp at hn;simp only[Sort.mapBlock,Sort.ahead,A2O];rw[if_neg (by omega)]
 .simp[AC] at hx;subst hx;exact .inl (by simp)
 .simp[AC] at hx;subst hx;simpa [Sort.mapBlock,Sort.ahead] using hlt
 simp at hc;subst hc;simp[AC,Sort.mapBlock,Sort.ahead,A2O,hg,Sort.onCells]
theorem Rb{a b:List Int}{sp:List Value}(h:b.length=a.length):Sort.putCells (Value.int .i64) 0 b.toArray (AA a++sp).toArray=(AA b++sp).toArray:=by
 apply A3E;intro k;unfold Sort.putCells;rw[Array.getElem?_mapIdx];simp only[A3u,List.size_toArray,A1E,true_and,A2d,A2R];by_cases hk:k<b.length
 .rw[A1o (by simp;omega),A1o (by simp;omega)];simp[AA,hk,show k<a.length by omega]
 rw[A1p (by simp;omega),A1p (by simp;omega)];have hk':¬k<a.length:=by omega
 simp only[h,hk',if_false,Option.map_id_fun',id,ints_length]
theorem N6(hO:AR w (AY [Bf v 3 1 (AA xs)]) w [Bf v 3 1 (AA xs)]):
  Calls A1c 154 #[v] w (Ret w (AY [Bf v 3 1 (AA xs)]) fun r M=>M=[Bf v 3 1 (AA xs.reverse)]):=by
 rcases DA hO with⟨rfl,h,_⟩|⟨g,len,cap,sp,rfl,h1,h2,h3,h4,hb⟩
 .obtain rfl:xs=[]:=by cases xs;rfl;simp[AA] at h
  refine(Tryz.slices_Reverse_int_empty none 0 w).mono ?_;rintro e w' ⟨rfl,rfl⟩;exact⟨_,_,J,J,hO⟩
 simp at h1;subst h1;have hg:=hb.holds _ (A1m ..);refine(Tryz.slices_Reverse_int g 0 cap xs w (fun j hj=>?_) (by omega)).mono ?_
 .have hj':j<xs.length:=by simpa using hj
  constructor
  .rw[cell_of_row w g _ _ _ (0,0) hg];rw[A3u,A2d,A1o (by simpa using hj')];simp[AA,hj']
  have hg':w.heap[g]? =some (.cells (AA xs++sp).toArray 3 (0,0)):=hg;simp[World.frozen?,hg']
 rintro e w' ⟨rfl,k,rfl⟩;refine⟨_,_,J,J,?_⟩;have:=UX hg (Sort.putCells (Value.int .i64) 0 xs.reverse.toArray) k;rw[Rb (by simp)] at this;refine Ca (by simp) (by decide) h2 h3 (by simp at h4 ⊢;omega) ?_ this;simp
end
section
structure AbI where
 i:Nat
 zs:List Int
theorem Gp{w:World}{v:Value}{xs:List Int}(hv:VE w v xs)(hl:xs.length<=17592186044416)(hx:∀x,x∈xs->0<=x/\x<=9223372036854775807):
  Calls A1c 152 #[v] w (Ret w [] fun r L=>L=[Bf r 3 1 (AA (CI xs))]):=by
 refine cO Tryz.func152 Tryz.ntmps152<|Zs ?_;refine Za<|Zx<|Zs ?_;refine Zm ?_;refine Bk J J (AH Y3 J J J (fun w' hw=>Id (hv.keep0 hw) hl)) ?_;rintro vc _ rfl;refine Za<|Zx<|Zs ?_;refine Zm ?_;refine AU J J (BT en154 J J J (Lc:=[Bf vc 3 1 (AA xs)]) (F:=[]) (.refl _) (fun k hk=>hk) (fun w' hw=>N6 hw.self)) ?_;rintro v8 _ ⟨_,rfl,rfl⟩;refine Zx<|Ai<|Ai ?_;have hrl:xs.reverse.length=xs.length:=List.length_reverse;refine DC.slcs (i:=0) (xs:=xs.reverse) J (by omega) ?_;rintro A c rfl hA;rw[hrl];refine Ak<|Zz [3]<|Zx<|As ?_;refine AS (ι:=AbI) (fun j=>j.i<=xs.length/\j.zs.length=xs.length/\∀(q:Nat),j.zs[q]? =if q<j.i then(xs.reverse[q]?).map tw else xs.reverse[q]?)
  (fun j=>[(3,.slice A xs.length c),(10,Iv xs.length),(11,Iv j.i)])
  (fun j=>[Bf (.slice A xs.length c) 3 1 (AA j.zs)]) (fun j=>xs.length-j.i) ⟨0,xs.reverse⟩ ⟨A1E _,hrl,fun q=>by rw[if_neg (A1w _)]⟩ ⟨J,J,J,trivial⟩ (Bg .nil) ?_;rintro⟨i,zs⟩ ⟨hi,hz,hq⟩;dsimp only at hi hz hq ⊢;refine Zs<|Zc<|Zx<|Ai ?_;refine Zd ?_ ?_<;>intro c4
 .have hlt:i<xs.length:=by simpa using c4
  obtain⟨ad,rfl⟩:=hA (fun e=>by rw[e] at hrl;simp at hrl;omega);obtain⟨y,hy⟩:∃y,xs.reverse[i]? =some y:=⟨_,A1d (by omega)⟩;have hzy:zs[i]? =some y:=by rw[hq,if_neg (Nat.lt_irrefl _)];exact hy
  obtain⟨hy0,hy1⟩:=hx y (A3n.1 (A1h hy));refine Ao<|Aa<|Ai<|As<|Zs<|Zz [2]<|Zx<|Ak ?_;refine Zz [2] ?_;refine Zj (ad.add i) ?_;refine Zu (AG J J CA (Cv (i:=0) J hzy (by omega))) ?_;refine Zo (Pq J J J (by omega)) ?_;refine Zj (ad.add i) ?_;refine Zy (s_slcI (i:=0) (j:=i) J J J J Bw (by omega))<|Az<|An<|Aa<|Ak ?_;refine Zz [2]<|Az ?_;refine AB ⟨i+1,zs.set i (tw y)⟩ (by dsimp only;omega) ⟨by dsimp only;omega,by simp[hz],fun q=>?_⟩ ⟨J,J,J,trivial⟩ (Bg .nil);dsimp only;rw[A3k];by_cases hqi:i=q
  .subst hqi;rw[if_pos rfl,if_pos (by omega),if_pos (by omega),hy];rfl
  rw[if_neg hqi,hq];by_cases h1:q<i
  .rw[if_pos h1,if_pos (by omega)]
  rw[if_neg h1,if_neg (by omega)]
 refine AN<|Ag<|Ag<|Aq<|Aa<|Zs<|Zz [2]<|Zx<|At ?_;have hie:i=xs.length:=by simp at c4;omega
 subst hie;have hze:zs=CI xs:=by
  apply A2z;intro q;rw[hq];unfold CI;rw[A1U];by_cases h1:q<xs.length
  .rw[if_pos h1]
  rw[if_neg h1,A1u (by omega)];rfl
 refine AZ (E':=[(2,_)]) (L':=[Bf (.slice A xs.length c) 3 1 (AA zs)]) ⟨J,trivial⟩ (Bg .nil) ?_;refine Zh ?_;rw[hze]
def WrtR(a b:Int)(c:List Int):Prop:=∃p q,c[0]? =some p/\c[c.length-1]? =some q/\(a=b->p=q)/\(a≠b->p=min a b/\q=max a b)
structure WrI where
 vl:Value
 ad:Addr
 l:List Int
 c:Nat
 L:List Chunk
 a:Int
 b:Int
structure WrE (es:List Pr) (w:World) (n:Nat) (j:WrI):Prop where
 val:j.vl= .slice (some j.ad) j.l.length j.c
 rds:∀w',AR w [] w' j.L->Rd w' (some j.ad) (AA j.l)/\VE w' j.vl j.l
 len:j.l.length=n
 all:NO es j.l
 hd:∃x,j.l[0]? =some x/\Aj es x=j.a
 la:∃y,j.l[j.l.length-1]? =some y/\AD es y=j.b
theorem LK{w:World}{L L':List Chunk}{vl:Value}{ad:Addr}{l:List Int}{j:Nat}{x:Int}(h:∀w',AR w [] w' L'->Rd w' (some ad) (AA l)/\VE w' vl l)(hp:∀w',AR w [] w' L->AR w [] w' L')(hj:l[j]? =some x):
  Ll w [] L (ad.add j) (Iv x):=by
 intro w' hw;obtain⟨ad',e,hc⟩:=(h w' (hp w' hw)).1.int hj;cases e;exact hc
theorem Pg{w:World}{ad:Addr}{l:List Int}{n c t:Nat}(hf:l.length<=17592186044416):
  ∀w',AR w [] w' [Bf (.slice (some ad) n c) t 1 (AA l)]->Rd w' (some ad) (AA l)/\VE w' (.slice (some ad) n c) l:=by
 intro w' hw;refine⟨?_,Jv hw⟩;obtain⟨A,cap,e,hr,_⟩:=C7 hw 0 rfl hf;cases e;exact hr
theorem M9{es:List Pr}{l:List Int}{x y:Int}(ha:NO es l)(hx:l[0]? =some x)(hy:l[l.length-1]? =some y):
  (∃z,(CI l)[0]? =some z/\Aj es z=AD es y)/\∃z,(CI l)[(CI l).length-1]? =some z/\AD es z=Aj es x:=by
 have hp:=(A1e.1 hx).1;refine⟨⟨tw y,?_,BL (ha _ (A1h hy))⟩,⟨tw x,?_,Ef (ha _ (A1h hx))⟩⟩
 .rw[FQ hp,A2R,hy];rfl
 rw[Cr,FQ (by omega),show l.length-1-(l.length-1)=0 by omega,hx];rfl
structure WrJ where
 i:Nat
 m:Nat
structure WrK where
 i:Nat
 v:Value
theorem Nl{N:Int}{es:List Pr}{M:Jo}{p:Option Addr}{w:World}{v:Value}{l:List Int}(hA:AV w N es M p)(hv:VE w v l)(hne:l≠[])(hall:NO es l)(hlk:Lk es l)(hl:l.length<=1000000000):
  Calls A1c 119 #[.pointer p,v] w (Ret w [] fun r L=>∃c,L=[Bf r 3 1 (AA c)]/\c.length=l.length+1/\
   ∀x y,l[0]? =some x->l[l.length-1]? =some y->WrtR (Aj es x) (AD es y) c):=by
 have hV:=hA.vld;have hfew:=hV.few;have hv':=hv;obtain⟨g,off,cap,rfl,hlc,hcm,hcell⟩:=hv.resolve_left (fun⟨_,_,_,h⟩=>hne h);have hpos:0<l.length:=A2k.2 hne;obtain⟨x0,hx0⟩:∃x,l[0]? =some x:=⟨_,A1d hpos⟩;obtain⟨y0,hy0⟩:∃y,l[l.length-1]? =some y:=⟨_,A1d (by omega)⟩;have hcL:∀{j:Nat} {x:Int},l[j]? =some x->w.cell? ((⟨g,off,none⟩:Addr).add j)=some (Iv x):=fun hj=>by rw[Cm];exact hcell _ _ hj
 refine cO Tryz.func119 Tryz.ntmps119<|Zs ?_;refine Za<|Zx<|Ai ?_;refine Fv 4100000041000 15 ?_;refine Yz [2] ?_;refine Yj ((⟨g,off,none⟩:Addr).add 0) ?_;refine Yh (A7 (hcL hx0)) ?_;refine BF.rel0 J J J J (AH JY J J J (fun w' hw=>Dw (hA.keep hw) _)) ?_;rintro _ rfl;refine Yz [3] ?_;refine Yo J (EC J J A1x) ?_;refine Yz [1] ?_;refine Yi (ad':=(⟨g,off,none⟩:Addr).add (l.length-1)) A1x Bw ?_ (he:=by rw[show((l.length:Int)-1).toNat=l.length-1 by omega]);refine Yh (A7 (hcL hy0)) ?_;refine BF.rel0 J J J J (AH Sf J J J (fun w' hw=>Fp (hA.keep hw) _)) ?_;rintro _ rfl;refine Yz [2] ?_;refine AF J ?_;simp only[zq,zr];refine Aa ?_;refine DC.cut (ι:=WrI) (fun j=>WrE es w l.length j/\(Aj es x0=AD es y0->j.a=j.b)/\(Aj es x0≠AD es y0->j.a=Aj es x0/\j.b=AD es y0))
  (fun j=>[(0,.pointer p),(1,j.vl),(5,Iv j.a),(6,Iv j.b)]) (fun j=>j.L) ?first12 ?rest12
 case first12=>
  refine Zs<|Zz [4] ?_;refine AM 29 J (fun k2_3=>?_) (fun k2_3=>?_)
  .refine Zz [2] ?_;refine AL J J (AH Y0 J J J (fun w' hw=>EN (hA.keep hw) _)) ?_;rintro _ rfl;refine Zz [2]<|Zx ?_;refine Zd ?_ ?_<;>intro c2
   .refine Zs<|Za<|Zx<|Ai<|Zs ?_;refine Zz [3]<|Zx<|As ?_;refine AS (ι:=WrJ) (fun j=>j.i<=l.length/\j.m<l.length) (fun j=>[(0,.pointer p),(1,.slice (some ⟨g,off,none⟩) l.length cap),(7,Iv j.m),(35,.slice (some ⟨g,off,none⟩) l.length cap),(36,Iv l.length),(37,Iv j.i)])
     (fun _=>[]) (fun j=>l.length-j.i) ⟨0,0⟩ ⟨A1E _,hpos⟩ ⟨J,J,J,J,J,J,trivial⟩ .nil ?_;rintro⟨i,m⟩ ⟨hi,hm⟩;dsimp only at hi hm ⊢;refine Zs<|Zc<|Zx<|Ai ?_;refine Zd ?_ ?_<;>intro c5
    .have hlt:i<l.length:=by simpa using c5
     obtain⟨x,hx⟩:∃x,l[i]? =some x:=⟨_,A1d hlt⟩;obtain⟨y,hy⟩:∃y,l[m]? =some y:=⟨_,A1d hm⟩;refine Ao<|Aa<|Ai<|As<|Zs<|Zm ?_;refine Zj ((⟨g,off,none⟩:Addr).add i) ?_;refine Zu (AG J J CA (A7 (hcL hx))) ?_;refine Zz [2]<|Zx<|Ai ?_;refine Fv 410000400 10 ?_;refine Yz [2] ?_;refine BF.rel0 J J J J (AH JY J J J (fun w' hw=>Dw (hA.keep hw) _)) ?_;rintro _ rfl;refine Yz [3] ?_;refine Yj ((⟨g,off,none⟩:Addr).add m) ?_;refine Yh (A7 (hcL hy)) ?_;refine BF.rel0 J J J J (AH JY J J J (fun w' hw=>Dw (hA.keep hw) _)) ?_;rintro _ rfl;refine Yz [1] ?_;refine AF J ?_;simp only[zq,zr];refine Aa ?_;refine Zd ?_ ?_<;>intro c7
     .refine Ak<|Zz [2]<|Az<|An<|Aa<|Ak ?_;refine Zz [2]<|Az ?_;refine AB ⟨i+1,i⟩ (by dsimp only;omega) ⟨by dsimp only;omega,by dsimp only;omega⟩ ⟨J,J,J,J,J,J,trivial⟩ .nil
     refine Ao<|An<|Aa<|Ak<|Zz [2]<|Az ?_;refine AB ⟨i+1,m⟩ (by dsimp only;omega) ⟨by dsimp only;omega,by dsimp only;omega⟩ ⟨J,J,J,J,J,J,trivial⟩ .nil
    refine AN<|Ag<|Ag<|Aq<|Aa<|Ai ?_;refine Fv 30004000 9 ?_;refine Yz [2] ?_;refine Yo J (Ha (lo:=m) J J J A1x Bw (by omega)) ?_;refine CQ J J J J (AH Y3 J J J (fun w' hw=>Id ((hv'.keep0 hw).drop (by omega)) (by rw[A2D];omega))) ?_;rintro vc _ rfl;refine Yz [2] ?_;refine Yo J (FY (hi:=m) J J J A1x Bw (by omega)) ?_;refine C5 (V:=_) J J J J J (Bt J J J A1x Bw Fz C6 J (by decide) (by decide) (PK (Bg .nil)) (Td (vs:=AA (l.take m)) (k:=m) (m:=1) (A:=some ⟨g,off,none⟩) (fun j u hj=>⟨_,J,by
     unfold AA at hj;rw[A1U,A2o] at hj;obtain⟨x,hx,rfl⟩:=hj;rw[A2j] at hx;split at hx
     .exact hcL hx
     cases hx⟩) (by simp;omega) (by simp) (fun h=>by cases h)) (by simp;omega) (CL (l.take m) []) (by simp;omega)) (fun v L' hC w hw=>hw.pick (.nil)) ?_;rintro v61 _ rfl;refine Yz [1] ?_;refine AF J ?_;simp only[zq,zr];refine Aa<|Ai ?_;have hie:i=l.length:=by simp at c5;omega
    rw[<-BW];have hl1:(l.drop m++l.take m).length=l.length:=by rw[A1V,A2D,A3g];omega
    refine DC.slcs (i:=0) (xs:=l.drop m++l.take m) J (by omega) ?_;rintro A1 c1 rfl hA1;obtain⟨ad1,rfl⟩:=hA1 (fun e=>by rw[e] at hl1;simp at hl1;omega);obtain⟨z,hz⟩:∃z,l[m]? =some z:=⟨_,A1d hm⟩;have hz0:(l.drop m++l.take m)[0]? =some z:=by rw[A1o (by rw[A2D];omega),A2S];exact hz
    refine Ak<|Zz [2] ?_;refine Zj (ad1.add 0) ?_;refine Zu (AG J J CA (Cv (i:=0) J hz0 (by omega))) ?_;refine AL J J (AH JY J J J (fun w' hw=>Dw (hA.keep hw) _)) ?_;rintro _ rfl;refine Za<|Zx<|Ak ?_;refine Zz [2]<|Az ?_;have heq:Aj es x0=AD es y0:=by first|simpa using k2_3|(simp at k2_3;exact k2_3)
    refine Be ⟨.slice (some ad1) (l.drop m++l.take m).length c1,ad1,l.drop m++l.take m,c1,[Bf (.slice (some ad1) (l.drop m++l.take m).length c1) 3 1 (AA (l.drop m++l.take m))],Aj es z,Aj es z⟩
     ⟨⟨rfl,Pg (by omega),hl1,fun x hx=>?_,⟨z,hz0,rfl⟩,?_⟩,fun _=>rfl,fun h=>absurd heq h⟩ ⟨rfl,rfl,rfl,rfl,trivial⟩ (Bg .nil)
    .rcases A1C.1 hx with hx|hx
     .exact hall x (List.mem_of_mem_drop hx)
     exact hall x (A2W hx)
    dsimp only;rw[hl1];by_cases h0:m=0
    .subst h0;have hzx:z=x0:=by rw[hz] at hx0;exact Option.some.inj hx0
     exact⟨y0,by simpa using hy0,by rw[hzx];exact heq.symm⟩
    obtain⟨y,hy⟩:∃y,l[m-1]? =some y:=⟨_,A1d (by omega)⟩;refine⟨y,?_,(hlk (m-1) y z hy (by rw[<-hz];congr 1;omega)).symm⟩;rw[A1p (by rw[A2D];omega),A2D,A2j,if_pos (by omega),<-hy]
    congr 1;omega
   refine Ao ?_;refine Be ⟨.slice (some ⟨g,off,none⟩) l.length cap,⟨g,off,none⟩,l,cap,[],Aj es x0,AD es y0⟩
    ⟨⟨rfl,fun w' hw=>⟨?_,hv'.keep0 hw⟩,rfl,hall,⟨x0,hx0,rfl⟩,⟨y0,hy0,rfl⟩⟩,fun h=>h,fun _=>⟨rfl,rfl⟩⟩ ⟨rfl,rfl,rfl,rfl,trivial⟩ .nil;obtain⟨A,c,e,hr⟩:=(hv'.keep0 hw).slv (by omega);cases e;exact hr
  refine Zz [5]<|Zx ?_;refine BN J<|Ao ?_;refine Be ⟨.slice (some ⟨g,off,none⟩) l.length cap,⟨g,off,none⟩,l,cap,[],Aj es x0,AD es y0⟩
   ⟨⟨rfl,fun w' hw=>⟨?_,hv'.keep0 hw⟩,rfl,hall,⟨x0,hx0,rfl⟩,⟨y0,hy0,rfl⟩⟩,fun h=>h,fun _=>⟨rfl,rfl⟩⟩ ⟨rfl,rfl,rfl,rfl,trivial⟩ .nil;obtain⟨A,c,e,hr⟩:=(hv'.keep0 hw).slv (by omega);cases e;exact hr
 rintro⟨vl,ad,l1,c1,L1,a1,b1⟩ ⟨⟨hval,hrds,hlen,hall1,⟨x1,hx1,hxa⟩,⟨y1,hy1,hyb⟩⟩,hends⟩;dsimp only at hval hrds hlen hall1 hx1 hxa hy1 hyb hends ⊢;subst hval hxa hyb;refine DC.cut (ι:=WrI) (fun j=>WrE es w l.length j/\(Aj es x0=AD es y0->j.a=j.b)/\(Aj es x0≠AD es y0->j.a=min (Aj es x0) (AD es y0)/\j.b=max (Aj es x0) (AD es y0)))
  (fun j=>[(0,.pointer p),(1,j.vl)]) (fun j=>j.L) ?first14 ?rest14
 case first14=>
  refine Ai ?_;refine Fv 410000004100000000000 24 ?_;refine Yz [4] ?_;refine BF.split 71 J (fun k13_3=>?_) (fun k13_3=>?_)
  .refine Yz [20] ?_;refine AF J ?_;simp only[zq,zr];refine Aa ?_;refine Bn J<|Ak ?_;refine Zm ?_;refine Bk rfl rfl (AH Vn rfl rfl rfl (fun w' hw=>Gp (hrds w' hw).2 (by omega) (fun x hx=>by have:=hall1 x hx;obtain⟨h0,h1⟩:=this;omega))) ?_;rintro v93 _ rfl;refine Za<|Az ?_;refine Dl.slcs (i:=0) (xs:=CI l1) J (by rw[Cr];omega) ?_;rintro A3 c3 rfl hA3;obtain⟨ad3,rfl⟩:=hA3 (fun e=>by have:=congrArg List.length e;rw[Cr] at this;simp at this;rw[this] at hx1;simp at hx1);obtain⟨e1,e2⟩:=M9 hall1 hx1 hy1;refine Be ⟨.slice (some ad3) (CI l1).length c3,ad3,CI l1,c3,[Bf (.slice (some ad3) (CI l1).length c3) 3 1 (AA (CI l1))],AD es y1,Aj es x1⟩
    ⟨⟨rfl,Pg (by rw[Cr];omega),by rw[Cr];exact hlen,KO hall1,e1,e2⟩,fun h=>(hends.1 h).symm,fun h=>?_⟩ ⟨rfl,rfl,trivial⟩ (Bg .nil);obtain⟨q1,q2⟩:=hends.2 h;dsimp only;simp at k13_3;omega
  refine Yz [4] ?_;refine BF.split 75 J (fun k13_7=>?_) (fun k13_7=>?_)
  .refine Yz [2] ?_;refine Yj (ad.add 0) ?_;refine Yh (LK hrds (fun _ h=>h) hx1) ?_;refine BF.rel0 J J J J (AH Sf J J J (fun w' hw=>Fp (hA.keep hw) _)) ?_;rintro _ rfl;refine Yz [3] ?_;refine Yo J (EC J J A1x) ?_;refine Yz [1] ?_;refine Yi (ad':=ad.add (l1.length-1)) A1x Bw ?_ (he:=by rw[show((l1.length:Int)-1).toNat=l1.length-1 by omega]);refine Yh (LK hrds (fun _ h=>h) hy1) ?_;refine BF.rel0 J J J J (AH JY J J J (fun w' hw=>Dw (hA.keep hw) _)) ?_;rintro _ rfl;refine Yz [3] ?_;refine AF J ?_;simp only[zq,zr];refine Aa ?_;refine Zd ?_ ?_<;>intro c13
   .refine Ak<|Zm ?_;refine Bk rfl rfl (AH Vn rfl rfl rfl (fun w' hw=>Gp (hrds w' hw).2 (by omega) (fun x hx=>by have:=hall1 x hx;obtain⟨h0,h1⟩:=this;omega))) ?_;rintro v93 _ rfl;refine Za<|Az ?_;refine Dl.slcs (i:=0) (xs:=CI l1) J (by rw[Cr];omega) ?_;rintro A3 c3 rfl hA3;obtain⟨ad3,rfl⟩:=hA3 (fun e=>by have:=congrArg List.length e;rw[Cr] at this;simp at this;rw[this] at hx1;simp at hx1);obtain⟨e1,e2⟩:=M9 hall1 hx1 hy1;refine Be ⟨.slice (some ad3) (CI l1).length c3,ad3,CI l1,c3,[Bf (.slice (some ad3) (CI l1).length c3) 3 1 (AA (CI l1))],AD es y1,Aj es x1⟩
     ⟨⟨rfl,Pg (by rw[Cr];omega),by rw[Cr];exact hlen,KO hall1,e1,e2⟩,fun h=>(hends.1 h).symm,fun h=>?_⟩ ⟨rfl,rfl,trivial⟩ (Bg .nil);obtain⟨q1,q2⟩:=hends.2 h;dsimp only;simp at k13_3;simp at k13_7;omega
   refine Ao ?_;refine Be ⟨.slice (some ad) l1.length c1,ad,l1,c1,L1,Aj es x1,AD es y1⟩
    ⟨⟨rfl,hrds,hlen,hall1,⟨x1,hx1,rfl⟩,⟨y1,hy1,rfl⟩⟩,hends.1,fun h=>?_⟩ ⟨rfl,rfl,trivial⟩ (Ay _);obtain⟨q1,q2⟩:=hends.2 h;dsimp only;simp at k13_3;omega
  refine Yz [16] ?_;refine AF J ?_;simp only[zq,zr];refine Aa ?_;refine BN J<|Ao ?_;refine Be ⟨.slice (some ad) l1.length c1,ad,l1,c1,L1,Aj es x1,AD es y1⟩
   ⟨⟨rfl,hrds,hlen,hall1,⟨x1,hx1,rfl⟩,⟨y1,hy1,rfl⟩⟩,hends.1,fun h=>?_⟩ ⟨rfl,rfl,trivial⟩ (Ay _);obtain⟨q1,q2⟩:=hends.2 h;dsimp only;simp at k13_3;omega
 rintro⟨vl,ad2,l2,c2,L2,a2,b2⟩ ⟨⟨hval,hrds2,hlen2,hall2,⟨x2,hx2,hxa⟩,⟨y2,hy2,hyb⟩⟩,hends2⟩;dsimp only at hval hrds2 hlen2 hall2 hx2 hxa hy2 hyb hends2 ⊢;subst hval hxa hyb;refine Zs<|Zz [2] ?_;refine Zj (ad2.add 0) ?_;refine Zu (AG J J CA (LK hrds2 (fun _ h=>h) hx2)) ?_;refine AL J J (AH JY J J J (fun w' hw=>Dw (hA.keep hw) _)) ?_;rintro _ rfl;refine ZL #[_] A1x Bw C6 fun g99=>?_;refine Za<|Zx<|Ai<|Zs ?_;refine Zz [3]<|Zx<|As ?_;refine DC.own (M:=Bf (Sv g99 1) 3 1 (AA [Aj es x2])::L2) (fun w hw=>Ca (len:=1) (cap:=1) J (by decide) (by omega) (by omega) J J hw) ?_;refine AS (ι:=WrK) (fun j=>j.i<=l2.length)
  (fun j=>[(0,.pointer p),(10,j.v),(100,.slice (some ad2) l2.length c2),(101,Iv l2.length),(102,Iv j.i)])
  (fun j=>Bf j.v 3 1 (AA (Aj es x2::(l2.take j.i).map (AD es)))::L2) (fun j=>l2.length-j.i) ⟨0,_⟩ (A1E _) ⟨J,J,J,J,J,trivial⟩ (Bg (Ay _)) ?_;rintro⟨i,v⟩ hi;dsimp only at hi ⊢;refine Zs<|Zc<|Zx<|Ai ?_;refine Zd ?_ ?_<;>intro c17
 .have hlt:i<l2.length:=by simpa using c17
  obtain⟨x,hx⟩:∃x,l2[i]? =some x:=⟨_,A1d hlt⟩;refine Ao<|Aa<|Ai<|As<|Zs ?_;refine Zj (ad2.add i) ?_;refine Zu (AG J J CA (LK hrds2 (fun _ h=>h.sub (A1k ..)) hx)) ?_;refine Za<|Zx<|Ak ?_;refine Zz [3] ?_;refine AL J J (AH Sf J J J (fun w' hw=>Fp (hA.keep hw) _)) ?_;rintro _ rfl;refine ZL #[_] A1x Bw C6 fun g110=>?_;refine AU J J (Bt J J J A1x Bw Fz C6 J (by decide) (by decide) (F:=L2) (fun w hw=>hw.sub (A1k ..)) (.inl ⟨_,_,J,AW J⟩) J (CL [_] []) (by simp;omega)) ?_;rintro v111 _ rfl;refine Za<|Az<|An<|Aa<|Ak ?_;refine Zz [2]<|Az ?_;refine AB ⟨i+1,v111⟩ (by dsimp only;omega) (by dsimp only;omega) ⟨J,J,J,J,J,trivial⟩ (.cons' 0 J (by dsimp only;rw[A1W,hx];simp[AA]) (Ay _))
 refine AN<|Ag<|Ag<|Aq<|Aa<|Zs<|Zz [2]<|Zx<|At ?_;have hie:i=l2.length:=by simp at c17;omega
 subst hie;rw[A1T];refine AZ (E':=[(4,_)]) (L':=[Bf v 3 1 (AA (Aj es x2::l2.map (AD es)))]) ⟨J,trivial⟩ (Bg .nil) ?_;refine Zh ?_;refine⟨_,J,by simp[hlen2],fun x y hx hy=>?_⟩;rw[hx0] at hx;rw[hy0] at hy;cases hx;cases hy;refine⟨Aj es x2,AD es y2,J,?_,hends2⟩;have:(Aj es x2::l2.map (AD es)).length-1=(l2.length-1)+1:=by simp;omega
 rw[this,A2P,A1U,hy2];rfl
theorem KH{w0:World}{K:List Nat}{L:List Chunk}{i t l c:Nat}{ad:Addr}{xs:List Int}(hi:L[i]? =some (Bf (.slice (some ad) l c) t 1 (AA xs)))(hf:xs.length<=17592186044416):Jl w0 K L ad (AA xs):=by
 intro w hw;obtain⟨A,cap,e,hr,_⟩:=C7 hw i hi hf;cases e;intro j u hj;obtain⟨ad',e,hc⟩:=hr j u hj;cases e;exact hc
theorem QB{N:Int}{es:List Pr}{M:Jo}{p:Option Addr}{w:World}{e:Nat}(hA:AV w N es M p)(he:e<es.length):
  Calls A1c 118 #[.pointer p,Iv e] w (Ret w [] fun r L=>L=[Bf r 3 1 (AA (BH es e))]):=by
 have hV:=hA.vld;have hfew:=hV.few;have hle:=GV hV (Gg he);have hlo:=GV hV (FV he);have hpe:=A2k.2 (FS (es:=es) (2*e));have hpo:=A2k.2 (FS (es:=es) (2*e+1));have hlast:(BZ es (2*e))[(BZ es (2*e)).length-1]? =some (wI es (2*e) (Cb es (2*e))):=by rw[<-A3z,GX]
 refine cO Tryz.func118 Tryz.ntmps118<|Zs ?_;refine Za<|Zx<|Zs ?_;refine Zz [2] ?_;refine Zo (Dz J J J (by omega)) ?_;refine Bk J J (AH Y4 J J J (fun w' hw=>Kh (hA.keep hw) (Gg he))) ?_;rintro v5 _ rfl;refine Za<|Zx<|Ai<|Ai ?_;refine DC.slcs (i:=0) (xs:=BZ es (2*e)) J (by omega) ?_;rintro A5 c5 rfl hA5;obtain⟨ad5,rfl⟩:=hA5 (FS _);refine Ak<|Zz [5] ?_;refine Zo (B4 (ad':=ad5.add ((BZ es (2*e)).length-1)) J J J A1x Bw (by omega) (by omega) (by rw[show(((BZ es (2*e)).length:Int)-1).toNat=(BZ es (2*e)).length-1 by omega])) ?_;refine Zu (AG J J CA (Cv (i:=0) J hlast (by omega))) ?_;refine AL J J (AH Sf J J J (fun w' hw=>Fp (hA.keep hw) _)) ?_;rintro _ rfl;refine Zz [2] ?_;refine Zo (Dz J J J (by omega)) ?_;refine AL J J (AH JY J J J (fun w' hw=>Dw (hA.keep hw) _)) ?_;rintro _ rfl;refine Zz [2] ?_;refine AM 24 J (fun k2_13=>?_) (fun k2_13=>?_)
 .refine Zz [3] ?_;refine Zo (Dz J J J (by omega)) ?_;refine AL J J (AH JY J J J (fun w' hw=>Dw (hA.keep hw) _)) ?_;rintro _ rfl;refine AL J J (AH Y0 J J J (fun w' hw=>EN (hA.keep hw) _)) ?_;rintro _ rfl;refine Zz [2]<|Zx ?_;refine Zd ?_ ?_<;>intro c2
  .refine Zs<|Zz [2]<|Zx<|At<|Ad ?_;refine AZ (E':=[(4,_)]) (L':=[Bf (.slice (some ad5) (BZ es (2*e)).length c5) 3 1 (AA (BZ es (2*e)))]) ⟨J,trivial⟩ (Bg .nil) ?_;refine Zh ?_;have hfree:K7 es e:=⟨by simpa using k2_13,by simp at c2;unfold Cg;omega⟩;unfold BH;rw[if_pos hfree]
  have hfree:¬K7 es e:=fun⟨h1,h2⟩=>by
   simp at c2;unfold Cg at h2;exact c2 (by exact_mod_cast h2)
  refine Ao<|Aa<|Ai ?_;have hfree:¬K7 es e:=fun⟨h1,h2⟩=>by
   first
   | (simp at k2_13;exact k2_13 h1)
   | (simp at c2;unfold Cg at h2;omega)
  refine Ak<|Zz [2] ?_;refine Zo (Dz J J J (by omega)) ?_;refine Zp ?_;refine Bk J J (AH Y4 J J J (fun w' hw=>Kh (hA.keep hw) (FV he))) ?_;rintro v6 _ rfl;refine Za<|Zx<|Ai ?_;refine DC.slcs (i:=0) (xs:=BZ es (2*e+1)) J (by omega) ?_;rintro A6 c6 rfl hA6;obtain⟨ad6,rfl⟩:=hA6 (FS _);refine Ak<|Zm ?_;refine Zo (Ha (lo:=1) J J J A1x Bw (by omega)) ?_;refine Bk J J (AH Vn J J J (fun w' hw=>Gp ((Jv hw).drop (k:=1) (by omega)) (by rw[A2D];omega) (fun x hx=>by
   have:=GW hV (BI hV (FV he)).way x (List.mem_of_mem_drop hx);obtain⟨h0,h1⟩:=this;omega))) ?_;rintro v41 _ rfl;refine Zm ?_;refine AU J J (Bt J J J A1x Bw Fz C6 J (by decide) (by decide) (PK (Bg .nil)) (.inl ⟨_,_,J,KH (i:=2) J (by omega)⟩) (by simp) (CL _ []) (by simp[Cr];omega)) ?_;rintro v43 _ rfl;refine Za<|Zx<|At ?_;refine AZ (E':=[(4,_)]) (L':=[Bf v43 3 1 (AA (CI ((BZ es (2*e+1)).drop 1))++AA (BZ es (2*e)))]) ⟨J,trivial⟩ (Bg .nil) ?_;refine Zh ?_;unfold BH;rw[if_neg hfree,BW,List.drop_one]
 refine Zz [8]<|Zx ?_;refine BN J<|Ao<|Aa<|Ai ?_;have hfree:¬K7 es e:=fun⟨h1,h2⟩=>by
  first
  | (simp at k2_13;exact k2_13 h1)
  | (simp at c2;unfold Cg at h2;omega)
 refine Ak<|Zz [2] ?_;refine Zo (Dz J J J (by omega)) ?_;refine Zp ?_;refine Bk J J (AH Y4 J J J (fun w' hw=>Kh (hA.keep hw) (FV he))) ?_;rintro v6 _ rfl;refine Za<|Zx<|Ai ?_;refine DC.slcs (i:=0) (xs:=BZ es (2*e+1)) J (by omega) ?_;rintro A6 c6 rfl hA6;obtain⟨ad6,rfl⟩:=hA6 (FS _);refine Ak<|Zm ?_;refine Zo (Ha (lo:=1) J J J A1x Bw (by omega)) ?_;refine Bk J J (AH Vn J J J (fun w' hw=>Gp ((Jv hw).drop (k:=1) (by omega)) (by rw[A2D];omega) (fun x hx=>by
  have:=GW hV (BI hV (FV he)).way x (List.mem_of_mem_drop hx);obtain⟨h0,h1⟩:=this;omega))) ?_;rintro v41 _ rfl;refine Zm ?_;refine AU J J (Bt J J J A1x Bw Fz C6 J (by decide) (by decide) (PK (Bg .nil)) (.inl ⟨_,_,J,KH (i:=2) J (by omega)⟩) (by simp) (CL _ []) (by simp[Cr];omega)) ?_;rintro v43 _ rfl;refine Za<|Zx<|At ?_;refine AZ (E':=[(4,_)]) (L':=[Bf v43 3 1 (AA (CI ((BZ es (2*e+1)).drop 1))++AA (BZ es (2*e)))]) ⟨J,trivial⟩ (Bg .nil) ?_;refine Zh ?_;unfold BH;rw[if_neg hfree,BW,List.drop_one]
open Classical
theorem P8{w0 w:World}{K:List Nat}{L:List Chunk}{N:Int}{es:List Pr}{M:Jo}(hw:AR w0 K w L)(hp:Dd L (NI M))(hP:Xj N es M):AV w N es M (some ⟨M.gp,0,none⟩):=by
 have h:=hw.pick hp;unfold NI at h;have h0:=h.holds _ (A1m ..);have h1:=h.holds _ (A1q _ (A1m ..));have h2:=h.holds _ (A1q _ (A1q _ (A1m ..)));have h3:=h.holds _ (A1q _ (A1q _ (A1q _ (A1m ..))));have h4:=h.holds _ (A1q _ (A1q _ (A1q _ (A1q _ (A1m ..)))));exact .at ⟨h0,h1,h2,h3,h4⟩ hP
structure ChR (es:List Pr) (k:Nat) (cs:RL):Prop where
 len:cs.length=(FX es k).length
 at':∀(j:Nat) e p,(FX es k)[j]? =some e->cs[j]? =some p->WrtR (JX es e) (Le es e) p.2/\2<=p.2.length/\p.2.length<=es.length*4+1
theorem ChR.next{es:List Pr}{k:Nat}{cs:RL}{p:Value×List Int}(h:ChR es k cs)(hs:FX es (k+1)=FX es k++[k])(hp:WrtR (JX es k) (Le es k) p.2/\2<=p.2.length/\p.2.length<=es.length*4+1):ChR es (k+1) (cs++[p]):=by
 refine⟨by rw[hs];simp[h.len],fun j e q hj hq=>?_⟩;rw[hs] at hj;by_cases hlt:j<cs.length
 .rw[A1o hlt] at hq;rw[A1o (by rw[<-h.len];exact hlt)] at hj;exact h.at' j e q hj hq
 rw[A1p (by omega)] at hq;rw[A1p (by rw[<-h.len];omega),<-h.len] at hj;have:j-cs.length=0:=by
  have:=(A1e.1 hq).1;simp at this;omega
 rw[this] at hj hq;simp at hj hq;subst hj hq;exact hp
structure ChI where
 i:Nat
 f:Nat->Bool
 cs:RL
 v:Value
structure ChJ where
 j:Nat
 g:Nat->Bool
theorem Qo{N:Int}{es:List Pr}{va:Value}{w:World}(hg:DX w va es)(hV:BX N es):
  Calls A1c 84 #[.agg #[Iv N,va]] w (Ret w [] fun r M=>∃v cs,r= .tuple #[v,Iv 0]/\ChR es es.length cs/\M=Bf v 37 1 (Ba cs)::AT 3 cs):=by
 obtain⟨A,cap,rfl,hr,hlc,hcm,hle⟩:=hg;have hfew:=hV.few;refine cO Tryz.func84 Tryz.ntmps84<|Zs ?_;refine ZB fun g1=>?_;refine Zz [2]<|Zx<|Zs ?_;refine CR [_,_] ?_;refine Bk J J (AH en36 J J J (fun w' hw=>KR N es A cap w' (hr.keep0 hw) (by omega))) ?_;intro v14 L14 hC14;obtain⟨_,M,hP,rfl,rfl⟩:=hC14.resolve_left (fun h=>h.1 hV);simp only[NI,A1K,A1N];refine Zz [5]<|Zx<|Ai<|Zs ?_;refine Zz [2]<|Zx ?_;refine Zd ?_ ?_<;>intro c2
 .refine Zs<|Zz [3]<|Zx<|At<|Ad ?_;refine Bq (.inl J) J J J ?_;simp at c2
 refine Ao<|Aa<|Zs<|Zz [1,1] ?_;refine Zw (B6 (k:=es.length) J J J Tryz.underlying183 sz4 by4 ze4 J (by omega) (by omega) (JL _)) fun g23=>?_;refine Za<|Zx<|Zs ?_;refine Za<|Zx<|Ai<|Zs ?_;refine Zz [1,2]<|Zx<|As ?_;refine DC.own (fun w hw=>Ck (t:=37) (m:=1) hw) ?_;refine AS (ι:=ChI) (fun j=>j.i<=es.length/\ChR es j.i j.cs/\∀x,x<es.length->(j.f x=true↔∃e,e∈FX es j.i/\∃y,y∈BH es e/\y / 2=x))
  (fun j=>[(4,.pointer (some ⟨M.gp,0,none⟩)),(6,Sv g23 es.length),(7,j.v),(25,.slice A es.length cap),(26,Iv es.length),(27,Iv j.i)])
  (fun j=>Bf j.v 37 1 (Ba j.cs)::AC g23 4 (IV es.length j.f).toArray::AC M.gp 196 #[sl M.g0 M.fr,sl M.g1 M.st,sl M.g2 M.ou,sl M.g3 M.pl]::AC M.g0 3 (AA M.fr).toArray::AC M.g1 3 (AA M.st).toArray::AC M.g2 3 (AA M.ou).toArray::AC M.g3 3 (AA M.pl).toArray::AT 3 j.cs) (fun j=>es.length-j.i) ⟨0,fun _=>false,[],Nv⟩
  ⟨A1E _,⟨rfl,fun j e p h _=>by simp[FX] at h⟩,fun x _=>⟨fun h=>by simp at h,fun⟨e,h,_⟩=>by simp[FX] at h⟩⟩ ⟨rfl,rfl,rfl,rfl,rfl,rfl,trivial⟩ (Bg (Bg (Bg (Bg (Bg (Bg (Bg .nil))))))) ?_;rintro⟨i,f,cs,v7⟩ ⟨hi,hch,hf⟩;dsimp only at hi hch hf ⊢;refine Zs<|Zc<|Zx<|Ai ?_;refine Zd ?_ ?_<;>intro c7
 .have hlt:i<es.length:=by simpa using c7
  have hcsl:cs.length<=i:=by rw[hch.len];exact L7 i
  refine Ao<|Aa<|Ai<|As<|Zs<|Zz [2]<|Zx<|Ai<|Zs ?_;refine Zz [3] ?_;refine Zu (AG J J Um (AK (LP f hlt)))<|Zx ?_;refine Zd ?_ ?_<;>intro c9
  .refine AN<|Ag<|Aq<|Aa<|Ak<|Zz [2]<|Az ?_;have hsel:FX es (i+1)=FX es i:=by
    show(if _ then _ else _)=_;rw[if_pos ((hf i hlt).1 c9)]
   refine AB ⟨i+1,f,cs,v7⟩ (by dsimp only;omega) ⟨by dsimp only;omega,⟨by dsimp only;rw[hsel];exact hch.len,by dsimp only;rw[hsel];exact hch.at'⟩,by dsimp only;rw[hsel];exact hf⟩ ⟨J,J,J,J,J,J,trivial⟩ (Ay _)
  refine Ao<|Aa<|Zs<|Zz [2] ?_;refine Bk J J (AH en118 J J J (fun w' hw=>QB (P8 hw (CY (CY (CY (CY (CY .nil))))) hP) hlt)) ?_;rintro v9 _ rfl;refine Za<|Zx<|Ai<|Ai ?_;have hcl:=WX hV hlt;have hsel:FX es (i+1)=FX es i++[i]:=by
   show(if _ then _ else _)=_;have c9':f i=false:=c9;rw[if_neg (fun h=>by rw[(hf i hlt).2 h] at c9';cases c9')]
  refine DC.slcs (i:=0) (xs:=BH es i) J (by omega) ?_;rintro A9 c9' rfl hA9;obtain⟨ad9,rfl⟩:=hA9 (J6 i);refine Ak<|Zz [3]<|Zx<|As ?_;refine AS (ι:=ChJ) (fun j=>j.j<=(BH es i).length/\∀x,x<es.length->(j.g x=true↔f x=true\/∃(q:Nat) (y:Int),q<j.j/\(BH es i)[q]? =some y/\y / 2=x))
   (fun j=>[(4,.pointer (some ⟨M.gp,0,none⟩)),(6,Sv g23 es.length),(7,v7),(9,.slice (some ad9) (BH es i).length c9'),(25,.slice A es.length cap),(26,Iv es.length),(27,Iv i),(37,.slice (some ad9) (BH es i).length c9'),(38,Iv (BH es i).length),(39,Iv j.j)])
   (fun j=>Bf (.slice (some ad9) (BH es i).length c9') 3 1 (AA (BH es i))::Bf v7 37 1 (Ba cs)::AC g23 4 (IV es.length j.g).toArray::AC M.gp 196 #[sl M.g0 M.fr,sl M.g1 M.st,sl M.g2 M.ou,sl M.g3 M.pl]::AC M.g0 3 (AA M.fr).toArray::AC M.g1 3 (AA M.st).toArray::AC M.g2 3 (AA M.ou).toArray::AC M.g3 3 (AA M.pl).toArray::AT 3 cs) (fun j=>(BH es i).length-j.j) ⟨0,f⟩
   ⟨A1E _,fun x _=>⟨.inl,fun h=>h.elim id fun⟨_,_,h,_⟩=>absurd h (A1w _)⟩⟩ ⟨rfl,rfl,rfl,rfl,rfl,rfl,rfl,rfl,rfl,rfl,trivial⟩ (Ay _) ?_;rintro⟨j,g⟩ ⟨hj,hgx⟩;dsimp only at hj hgx ⊢;refine Zs<|Zc<|Zx<|Ai ?_;refine Zd ?_ ?_<;>intro c12
  .have hjl:j<(BH es i).length:=by simpa using c12
   obtain⟨y,hy⟩:∃y,(BH es i)[j]? =some y:=⟨_,A1d hjl⟩;obtain⟨hy0,hy1⟩:=OF hV hlt y (A1h hy);refine Ao<|Aa<|Ai<|As<|Zs ?_;refine Zj (ad9.add j) ?_;refine Zu (AG J J CA (Cv (i:=0) J hy (by omega))) ?_;refine Za<|Zx<|Ak ?_;refine Zz [2] ?_;refine Zo (Gi J J J (by omega) (by omega)) ?_;refine Zz [1] ?_;refine Zy (AP (cs':=(IV es.length (Ki g (y / 2).toNat true)).toArray) J J J sz4 J (by simp;omega) (LO g true))<|Az<|An<|Aa<|Ak ?_;refine Zz [2]<|Az ?_;refine AB ⟨j+1,Ki g (y / 2).toNat true⟩ (by dsimp only;omega) ⟨by dsimp only;omega,fun x hx=>?_⟩ ⟨J,J,J,J,J,J,J,J,J,J,trivial⟩ (Ay _);dsimp only;unfold Ki;split
   .rename_i e;subst e;simp only[true_iff];exact .inr ⟨j,y,by omega,hy,by omega⟩
   rename_i e;rw[hgx x hx];constructor
   .rintro(h1|⟨q,z,h1,h2,h3⟩)
    .exact .inl h1
    exact .inr ⟨q,z,by omega,h2,h3⟩
   rintro(h1|⟨q,z,h1,h2,h3⟩)
   .exact .inl h1
   rcases A1i.1 h1 with h1|rfl
   .exact .inr ⟨q,z,h1,h2,h3⟩
   rw[hy] at h2;cases h2;exact absurd (by omega) e
  refine AN<|Ag<|Ag<|Aq<|Aa<|Ak<|Zz [3] ?_;refine Bk J J (AH en119 J J J (fun w' hw=>Nl (P8 hw (Et (Et (Et (Et (Et .nil))))) hP) (Jv hw) (J6 i) (OF hV hlt) (Uj hV hlt) (by omega))) ?_;rintro v51 _ ⟨c,rfl,hclen,hwr⟩;simp only[zs];refine CN.slcs (i:=0) (xs:=c) J (by omega) ?_;rintro A51 c51 rfl _;refine ZL #[_] A1B ET Gq fun g52=>?_;refine AU J J (Bt J J J A1B ET Sx Gq J (by decide) (by decide) (news:=[.slice A51 c.length c51]) (k:=1) (fun w hw=>hw.perm (Bj (i:=3) J).symm) (.inl ⟨_,_,J,AW J⟩) J (fun u hu=>by rw[A2F.1 hu];rfl) (by simp;omega)) ?_;rintro v53 _ rfl;refine Za<|Az<|An<|Aa<|Ak ?_;refine Zz [2]<|Az ?_;have hjl:j=(BH es i).length:=by simp at c12;omega
  subst hjl;refine Dl.own (M:=Bf v53 37 1 (Ba (cs++[(.slice A51 c.length c51,c)]))::AC g23 4 (IV es.length g).toArray::AC M.gp 196 #[sl M.g0 M.fr,sl M.g1 M.st,sl M.g2 M.ou,sl M.g3 M.pl]::AC M.g0 3 (AA M.fr).toArray::AC M.g1 3 (AA M.st).toArray::AC M.g2 3 (AA M.ou).toArray::AC M.g3 3 (AA M.pl).toArray::AT 3 (cs++[(.slice A51 c.length c51,c)])) (fun w hw=>?_) ?_
  .have e1:Ba (cs++[(.slice A51 c.length c51,c)])=Ba cs++[.slice A51 c.length c51]:=by simp[Ba]
   have e2:AT 3 (cs++[(.slice A51 c.length c51,c)])=AT 3 cs++[Bf (.slice A51 c.length c51) 3 1 (AA c)]:=by simp[AT]
   rw[e1,e2];have h1:=hw.sub (L':=Bf v53 37 1 (Ba cs++[.slice A51 c.length c51])::Bf (.slice A51 c.length c51) 3 1 (AA c)::AC g23 4 (IV es.length g).toArray::AC M.gp 196 #[sl M.g0 M.fr,sl M.g1 M.st,sl M.g2 M.ou,sl M.g3 M.pl]::AC M.g0 3 (AA M.fr).toArray::AC M.g1 3 (AA M.st).toArray::AC M.g2 3 (AA M.ou).toArray::AC M.g3 3 (AA M.pl).toArray::AT 3 cs) ((((List.Sublist.refl _).cons _).cons_cons _ |>.cons _).cons_cons _);refine h1.perm (List.Perm.cons _ ?_);have:=A1v (l₁:=AC g23 4 (IV es.length g).toArray::AC M.gp 196 #[sl M.g0 M.fr,sl M.g1 M.st,sl M.g2 M.ou,sl M.g3 M.pl]::AC M.g0 3 (AA M.fr).toArray::AC M.g1 3 (AA M.st).toArray::AC M.g2 3 (AA M.ou).toArray::AC M.g3 3 (AA M.pl).toArray::AT 3 cs) (l₂:=[Bf (.slice A51 c.length c51) 3 1 (AA c)]);simpa using this
  have hca:(BH es i)[0]? =some (((BH es i)[0]?).getD (-1)):=by
   obtain⟨x,hx⟩:∃x,(BH es i)[0]? =some x:=⟨_,A1d (A2k.2 (J6 i))⟩;rw[hx];rfl
  have hcz:(BH es i)[(BH es i).length-1]? =some (wI es (2*i) (Cb es (2*i))):=by rw[<-A3z,Uk]
  have hcp:=A2k.2 (J6 (es:=es) i);refine AB ⟨i+1,g,cs++[(.slice A51 c.length c51,c)],v53⟩ (by dsimp only;omega) ⟨by dsimp only;omega,hch.next hsel ⟨hwr _ _ hca hcz,by dsimp only;omega,by dsimp only;omega⟩,fun x hx=>?_⟩ ⟨J,J,J,J,J,J,trivial⟩ (Ay _);dsimp only;rw[hgx x hx,hf x hx,hsel];constructor
  .rintro(⟨e,he,h⟩|⟨q,y,_,hq,hy⟩)
   .exact⟨e,by simp[he],h⟩
   exact⟨i,by simp,y,A1h hq,hy⟩
  rintro⟨e,he,y,hy,hyx⟩;rcases A1C.1 he with he|he
  .exact .inl ⟨e,he,y,hy,hyx⟩
  simp at he;subst he;obtain⟨q,hq⟩:=A1j.1 hy;exact .inr ⟨q,y,(A1e.1 hq).1,hq,hyx⟩
 refine AN<|Ag<|Ag<|Aq<|Aa<|Zs<|Zz [3]<|Zx<|At ?_;have hie:i=es.length:=by simp at c7;omega
 subst hie;refine Dl.own (M:=Bf v7 37 1 (Ba cs)::AT 3 cs) (fun w hw=>hw.sub (((((((List.Sublist.refl _).cons _).cons _).cons _).cons _).cons _).cons _ |>.cons_cons _)) ?_;refine AZ (E':=[(2,_),(3,_)]) ⟨J,J,trivial⟩ (Ay _) ?_;refine Bq (.inl J) J J J ?_;exact⟨v7,cs,J,hch,J⟩
end
section
variable{κ:Type}[DecidableEq κ]
variable{P:Program}{w0 w:World}{K:List Nat}{n:Nat}{ds:List Deferred}{E:Env}{L:List Chunk}{o:Oper}{x y:Operand}{enc:κ->Value}{m:List (κ×Value)}{g:Nat}
theorem Xy{t kt et:TypeId}(i:Nat)(hi:L[i]? =some (Ej enc g m))(ho:o.op= .call ⟨.builtin .len,#[x],#[t]⟩)(hx:ev n E x=some (.map (some g)))(ht:P.underlying t=some (.map kt et)):
  Val P w0 K n ds E L o (.int .i64 m.length):=by
 intro a w ha hw;obtain⟨es,clock,h1,h2,_⟩:=It i hi hw;have hg:(getObj g).run P w= .ok (.map es clock) w:=by simp[getObj,Sem.run,h1]
 have hl:es.size=m.length:=by have:=congrArg List.length h2;simpa using this
 simp[execOp,ho,resolve,ha.ev hx,invoke,builtin,Builtin.len_,run_underlying ht,hg,goInt,hl]
theorem Rl{t e sz len:Nat}{ad ad':Addr}{k:IntKind}{i:Int}(ho:o.op= .indexAddr t x y)(hx:ev n E x=some (.pointer (some ad)))(hy:ev n E y=some (.int k i))
 (ht:P.underlying t=some (.array len e))(hm:BD P e=some sz)(h0:0<=i)(h1:i<len)(he:ad.add (i.toNat*sz)=ad'):EL P n ds E o (.pointer (some ad')):=by
 intro a w ha;subst he;simp[execOp,ho,ha.ev hx,ha.ev hy,Instr.indexAt,asIntOf,Instr.sureAddr,run_underlying ht,Cp hm,h0,h1]
theorem Pw{t e sz len:Nat}{ps:Array (Nat×Operand)}{vs:List (Nat×Value)}{zv:Value}{zs l:List Value}{cs:Array Value}(ho:o.op= .build t ps)(hp:ND n E ps.toList=some vs)
 (ht:P.underlying t=some (.array len e))(hm:BD P e=some sz)(hz:B2 P t=some zv)(hzs:zv.cells.toList=zs)(hf:JV (fun i=>some (i*sz,sz)) zs vs=some l)(hc:l.toArray=cs):EL P n ds E o (.agg cs):=by
 intro a w ha;subst hc hzs;have h1:(ps.map fun(p:Nat×Operand)=>(p.1,a.eval p.2))=vs.toArray:=by
  apply Array.ext';rw[A3G];exact IB ha hp
 have h2:(ps.map fun(i,x)=>(i,a.eval x))=vs.toArray:=h1;have h3:=LM hf;simp only[execOp,ho,h2];simp[Instr.build,Ip hz,run_underlying ht,Cp hm,h3]
theorem E5{P:Program}{w0:World}{K:List Nat}{n:Nat}{E:Env}{L:List Chunk}{u u2:Value}{fn:Func}{p q s:Tmp}{ty:TypeId}{g t:Nat}{cs:Array Value}{C:Value->List Chunk->Prop}{e:Exit}(he:e= .ret\/e= .normal)(hr:fn.results=#[.cell p ty,.tmp q,.tmp s])
 (hv:ev n E (.tmp p)=some (.pointer (some ⟨g,0,none⟩)))(hq:ev n E (.tmp q)=some u)(hq2:ev n E (.tmp s)=some u2)[h:Find L g t cs](ht:CG P ty=some true)(hs:BD P ty=some cs.size)
 (hR:∃L',(∀w,AR w0 K w L->AR w0 K w L')/\C (.tuple #[.agg cs,u,u2]) L'):Dl w0 K n [] (bodyPost P fn (Ret w0 K C) e) E L:=by
 intro a w ha hO;obtain⟨L',hL,hC⟩:=hR;have hg:=hO.holds _ h.mem;have hp:a.tmps[p]?.getD undef= .pointer (some ⟨g,0,none⟩):=by have:=ha.ev hv;simpa [Act.eval] using this
 have hq':a.tmps[q]?.getD undef=u:=by have:=ha.ev hq;simpa [Act.eval] using this
 have hq2':a.tmps[s]?.getD undef=u2:=by have:=ha.ev hq2;simpa [Act.eval] using this
 have h1:a.defers=[]/\∃v,(results fn a.tmps).run P w= .ok v w/\Ret w0 K C (.returned v) w:=by
  refine⟨ha.defers,_,?_,.tuple #[.agg cs,u,u2],L',rfl,hC,hL w hO⟩;simp[results,hr,hp,hq',hq2',asAddr,GF hg ht hs]
 rcases he with rfl|rfl<;>exact h1
end
section
open Classical
theorem If(es:List Pr)(i:Nat):DQ es (i+1)=DQ es i++if Cg es (i:Int)≠0/\Cg es (i:Int)≠2 then[(i:Int)] else[]:=by
 unfold DQ;rw[A2p,A2U,A1Y]
 congr 1
 by_cases h:Cg es (i:Int)≠0/\Cg es (i:Int)≠2<;>simp[h]
theorem Vy(es:List Pr)(i:Nat):(DQ es i).length<=i:=by
 unfold DQ;rw[A1S];have:=A2J (fun v:Nat=>decide (Cg es (v:Int)≠0/\Cg es (v:Int)≠2)) (List.range i);simpa using this
theorem SD{es:List Pr}{i n:Nat}(h:i<=n){x:Int}(hx:x∈DQ es i):x∈DQ es n:=by
 unfold DQ at hx ⊢;obtain⟨v,hv,rfl⟩:=A1G.1 hx;obtain⟨h1,h2⟩:=A1D.1 hv;exact A1G.2 ⟨v,A1D.2 ⟨A1r.2 (by have:=A1r.1 h1;omega),h2⟩,J⟩
structure DgI where
 i:Nat
 d:Nat
 v:Value
theorem MF{n:Nat}{es:List Pr}{M:Jo}{p:Option Addr}{w:World}(hA:AV w n es M p):
  Calls A1c 83 #[.pointer p] w (Ret w [] fun r L=>
   (∃A c d,r= .tuple #[.slice A (DQ es n).length c,Iv (d:Nat)]/\L=[Bf (.slice A (DQ es n).length c) 3 1 (AA (DQ es n))]/\∀u,u∈DQ es n->Cg es u=d)\/
   (r= .tuple #[Nv,Iv 0]/\L=[]/\¬∃d,∀u,u∈DQ es n->Cg es u=d)):=by
 have hV:=hA.vld;have hn:=hV.hi;refine cO Tryz.func83 Tryz.ntmps83<|Zs ?_;refine Zz [2]<|Zx<|Zs ?_;refine Za<|Zx<|Zs ?_;refine Za<|Zx<|Ai<|Zs ?_;refine Zm ?_;refine AL J J (AH en117 J J J (fun w' hw=>VF (hA.keep hw))) ?_;rintro _ rfl;refine Zm<|Zx<|As ?_;refine DC.own (fun w hw=>Ck (t:=3) (m:=1) hw) ?_;refine AS (ι:=DgI) (fun j=>j.i<=n/\(∀u,u∈DQ es j.i->Cg es u=j.d)/\(j.d=0->DQ es j.i=[])/\(j.d≠0->DQ es j.i≠[]))
  (fun j=>[(0,.pointer p),(4,j.v),(5,Iv j.d),(9,Iv n),(10,Iv j.i)])
  (fun j=>[Bf j.v 3 1 (AA (DQ es j.i))]) (fun j=>n-j.i) ⟨0,0,Nv⟩ ⟨A1E _,by simp[DQ],fun _=>by simp[DQ],fun h=>absurd J h⟩ ⟨J,J,J,J,J,trivial⟩ (Bg .nil) ?_;rintro⟨i,d,v4⟩ ⟨hi,hd,hd0,hd1⟩;dsimp only at hi hd hd0 hd1 ⊢;refine Zs<|Zc<|Zx<|Ai ?_;refine Zd ?_ ?_<;>intro c4
 .have hlt:i<n:=by simpa using c4
  have hbl:=Vy es i;refine Ao<|Aa<|Ai<|As<|Zs<|Zz [2]<|Zx<|Zs ?_;refine Zz [2] ?_;refine AL J J (AH Y0 J J J (fun w' hw=>EN (hA.keep hw) _)) ?_;rintro _ rfl;refine Za<|Zx<|As<|Zs ?_;refine Zz [3] ?_;refine AM 19 J (fun k8_2=>?_) (fun k8_2=>?_)
  .refine Zz [4]<|Zx ?_;refine Bn J<|Ao<|An<|An<|Aa<|Ak ?_;refine Zz [2]<|Az ?_;have hb:DQ es (i+1)=DQ es i:=by
    have:Cg es (i:Int)=0:=by unfold Cg;simp at k8_2;simp[k8_2]
    rw[If,if_neg (by omega),A1O]
   refine AB ⟨i+1,d,v4⟩ (by dsimp only;omega) ⟨by dsimp only;omega,by dsimp only;rw[hb];exact hd,by dsimp only;rw[hb];exact hd0,by dsimp only;rw[hb];exact hd1⟩ ⟨J,J,J,J,J,trivial⟩ (.cons' 0 J (by dsimp only;rw[hb]) .nil)
  refine Zz [4]<|Zx ?_;refine Zd ?_ ?_<;>intro c8
  .refine Ao<|An<|An<|Aa<|Ak<|Zz [2]<|Az ?_;have hb:DQ es (i+1)=DQ es i:=by
    have:Cg es (i:Int)=2:=by unfold Cg;simp at c8;omega
    rw[If,if_neg (by omega),A1O]
   refine AB ⟨i+1,d,v4⟩ (by dsimp only;omega) ⟨by dsimp only;omega,by dsimp only;rw[hb];exact hd,by dsimp only;rw[hb];exact hd0,by dsimp only;rw[hb];exact hd1⟩ ⟨J,J,J,J,J,trivial⟩ (.cons' 0 J (by dsimp only;rw[hb]) .nil)
  refine Zs<|Zz [3] ?_;refine AM 26 J (fun k9_2=>?_) (fun k9_2=>?_)
  .refine Zz [5]<|Zx ?_;refine Bn J<|Ak ?_;refine Zz [2] ?_;refine ZL #[_] A1x Bw C6 fun g33=>?_;refine AU J J (Bt J J J A1x Bw Fz C6 J (by decide) (by decide) (PK (BC .nil)) (.inl ⟨_,_,J,AW J⟩) J (CL [_] []) (by simp;omega)) ?_;rintro v34 _ rfl;have hne:Cg es (i:Int)≠0/\Cg es (i:Int)≠2:=by
    have h1:¬(((Bs es (i:Int)).length:Int)=0):=by simpa using k8_2
    have h2:¬(((Bs es (i:Int)).length:Int)=2):=by simpa using c8
    unfold Cg;omega
   refine Zz [3]<|Az<|An<|An<|Aa<|Ak ?_;refine Zz [2]<|Az ?_;have hb:DQ es (i+1)=DQ es i++[(i:Int)]:=by rw[If,if_pos hne]
   refine AB ⟨i+1,Cg es (i:Int),v34⟩ (by dsimp only;omega) ⟨by dsimp only;omega,?_,fun h=>absurd h hne.1,fun _=>by dsimp only;rw[hb];simp⟩ ⟨J,J,J,J,J,trivial⟩ (.cons' 0 J (by dsimp only;rw[hb,BW]) .nil);dsimp only;have hd00:d=0:=by simp at k9_2;omega
   rw[hb,hd0 hd00];intro u hu;simp at hu;subst hu;rfl
  refine Zz [5]<|Zx ?_;refine Zd ?_ ?_<;>intro c9
  .refine Ak<|Zz [2] ?_;refine ZL #[_] A1x Bw C6 fun g33=>?_;refine AU J J (Bt J J J A1x Bw Fz C6 J (by decide) (by decide) (PK (BC .nil)) (.inl ⟨_,_,J,AW J⟩) J (CL [_] []) (by simp;omega)) ?_;rintro v34 _ rfl;have hne:Cg es (i:Int)≠0/\Cg es (i:Int)≠2:=by
    have h1:¬(((Bs es (i:Int)).length:Int)=0):=by simpa using k8_2
    have h2:¬(((Bs es (i:Int)).length:Int)=2):=by simpa using c8
    unfold Cg;omega
   refine Zz [3]<|Az<|An<|An<|Aa<|Ak ?_;refine Zz [2]<|Az ?_;have hb:DQ es (i+1)=DQ es i++[(i:Int)]:=by rw[If,if_pos hne]
   refine AB ⟨i+1,Cg es (i:Int),v34⟩ (by dsimp only;omega) ⟨by dsimp only;omega,?_,fun h=>absurd h hne.1,fun _=>by dsimp only;rw[hb];simp⟩ ⟨J,J,J,J,J,trivial⟩ (.cons' 0 J (by dsimp only;rw[hb,BW]) .nil);dsimp only;have hdd:d=Cg es (i:Int):=by unfold Cg;simp at c9;omega
   rw[hb];intro u hu;rcases A1C.1 hu with hu|hu
   .rw[hd u hu,hdd]
   simp at hu;subst hu;rfl
  refine Zs<|Zz [2]<|Zx<|At<|Am<|Am<|Ad<|Ad<|Am<|Ad ?_;refine Lm 2 3 ?_;refine Bq (.inl J) J J J ?_;refine .inr ⟨J,J,?_⟩;rintro⟨d',hd'⟩;have h0:d≠0:=by simp at k9_2;omega
  obtain⟨u,hu⟩:=A2i _ (hd1 h0);have hb:DQ es (i+1)=DQ es i++[(i:Int)]:=by
   rw[If,if_pos];have h1:¬(((Bs es (i:Int)).length:Int)=0):=by simpa using k8_2
   have h2:¬(((Bs es (i:Int)).length:Int)=2):=by simpa using c8
   unfold Cg;omega
  have e1:=hd' u (SD hi hu);have e2:=hd' i (SD (i:=i+1) (by omega) (by rw[hb];simp));have e3:=hd u hu;unfold Cg at e1 e2 e3;simp at c9;omega
 refine AN<|Ag<|Ag<|Aq<|Aa<|Zs<|Zz [4]<|Zx<|At ?_;have hie:i=n:=by simp at c4;omega
 subst hie;have hbl:=Vy es i;refine Dl.slcs (i:=0) (xs:=DQ es i) J (by omega) ?_;rintro A c rfl _;refine AZ (E':=[(2,_),(3,_)]) (L':=[Bf (.slice A (DQ es i).length c) 3 1 (AA (DQ es i))]) ⟨J,J,trivial⟩ (Bg .nil) ?_;refine Bq (.inl J) J J J ?_;exact .inl ⟨A,c,d,J,J,hd⟩
end
section
open Classical
theorem DG(c:Chunk):∀R:List Chunk,Dd (c::R) R
 | []=>.nil
 | d::R=>.cons 1 rfl (DG c R)
theorem Ks(a:Chunk){M L':List Chunk}(h:Dd M L'):Dd (a::M) L':=by
 induction h with
 | nil=>exact .nil
 | cons i h r ih=>exact .cons (i+1) h ih
theorem XQ{w0 w:World}{K:List Nat}{F:List Chunk}{t:Nat}{cs:RL}{p:Value×List Int}(hw:AR w0 K w (F++AT t cs))(hp:p∈cs):VE w p.1 p.2:=by
 obtain⟨i,hi⟩:=A1j.1 hp;exact Jv (hw.perm (Iq hi F).symm)
def MapR(m:List (Pr×Value))(cs:RL):Prop:=∀q x,HP m q=some x->∃p,p∈cs/\p.1=x
theorem Hj{gm:Nat}{m:List (Pr×Value)}{cs:RL}{X:List Chunk}{u v:Int}{w:World}(hO:AR w (AY (Ej encP gm m::(X++AT 3 cs))) w (Ej encP gm m::(X++AT 3 cs)))(hm:MapR m cs)
 (hs:∀p,p∈cs->p.2.length<=1000000000):
  Calls A1c 120 #[.map (some gm),Iv u,Iv v] w (Ret w (AY (Ej encP gm m::(X++AT 3 cs))) fun r M=>M=Ej encP gm m::(X++AT 3 cs)/\
   ∃A l c,r= .tuple #[.slice A l c,.bool (HP m (srt u v)).isSome]):=by
 obtain⟨xs,hxl,hxs⟩:∃xs:List Int,xs.length<=1000000000/\∀(w0 w':World) K,AR w0 K w' (Ej encP gm m::(X++AT 3 cs))->VE w' ((HP m (srt u v)).getD (Nv)) xs:=by
  cases hq:HP m (srt u v) with
  | none=>exact⟨[],by simp,fun _ _ _ _=>.inl ⟨none,0,rfl,rfl⟩⟩
  | some x=>
   obtain⟨p,hp,rfl⟩:=hm _ _ hq;exact⟨p.2,hs p hp,fun w0 w' K hw=>XQ (F:=Ej encP gm m::X) hw hp⟩
 refine BO (args:=[_,_,_]) (L:=Ej encP gm m::(X++AT 3 cs)) Tryz.func120 J Tryz.ntmps120 J hO<|Zs ?_;refine Zz [2]<|Zx<|Zs ?_;refine Zz [3] ?_;refine Zo (Ob J J J) ?_;refine Zz [2] ?_;refine Zo (Rk J J J) ?_;refine Zo (Pw (cs:=#[Iv (min u v),Iv (max u v)]) J J Tryz.underlying149 Bw NP J J J) ?_;refine Zu (Fd (k:=srt u v) (ok:=true) 0 J KF J J J Tryz.underlying191 Gq J) ?_;refine Zz [5]<|Zx<|Zs ?_;refine Zm ?_;refine Bk J J (AH Y3 J J J (fun w' hw=>Id (hxs _ w' _ hw) (by omega))) ?_;rintro v23 _ rfl;simp only[zs];refine Za<|Zx<|Ai<|Zs ?_;refine Zz [3]<|Zx ?_;refine Zd ?_ ?_<;>intro c3
 .refine Ak<|Zm ?_;refine AU J J (BT en154 J J J (Lc:=[Bf v23 3 1 (AA xs)]) (F:=Ej encP gm m::(X++AT 3 cs)) (.refl _) (fun k hk=>hk) (fun w' hw=>N6 (hw.sub (L':=[Bf v23 3 1 (AA xs)]) ((A1l _).cons_cons _)).self)) ?_;rintro v28 _ ⟨_,rfl,rfl⟩;refine Zx<|Zs<|Zz [4]<|Zx<|At ?_;refine Dl.shape (i:=0) (vs:=AA xs.reverse) (t:=3) (m:=1) J ?_;rintro⟨A,l,c,rfl⟩;refine Dl.own (fun w hw=>hw.sub (A1k ..)) ?_;refine AZ (E':=[(6,_),(7,_)]) ⟨J,J,trivial⟩ (Ay _) ?_;refine Bq (.inl J) J J J ?_;exact⟨J,A,l,c,J⟩
 refine Ao<|Aa<|Zs<|Zz [4]<|Zx<|At ?_;refine Dl.shape (i:=0) (vs:=AA xs) (t:=3) (m:=1) J ?_;rintro⟨A,l,c,rfl⟩;refine Dl.own (fun w hw=>hw.sub (A1k ..)) ?_;refine AZ (E':=[(6,_),(7,_)]) ⟨J,J,trivial⟩ (Ay _) ?_;refine Bq (.inl J) J J J ?_;exact⟨J,A,l,c,J⟩
theorem Gl{E:List Pr}{B:List Int}{i:Nat}{x:Int}(hx:B[i]? =some x)(f:Int->Bool):(B.take (i+1)).filter f=(B.take i).filter f++if f x then[x] else[]:=by
 rw[A1W,hx,A2U]
 congr 1
 cases h:f x<;>simp[h]
structure SdI where
 i:Nat
 v5:Value
 v6:Value
theorem QQ{gm:Nat}{m:List (Pr×Value)}{cs:RL}{vb:Value}{B:List Int}{E:List Pr}{w:World}(hO:AR w (AY (Ej encP gm m::Bf vb 3 1 (AA B)::AT 3 cs)) w (Ej encP gm m::Bf vb 3 1 (AA B)::AT 3 cs))(hm:MapR m cs)
 (hs:∀p,p∈cs->p.2.length<=1000000000)(hB:B.length<=1000000)(hE:∀q,(HP m q).isSome=decide (q∈E)):
  Calls A1c 86 #[vb,.map (some gm)] w (Ret w (AY (Ej encP gm m::Bf vb 3 1 (AA B)::AT 3 cs)) fun r M=>M=Ej encP gm m::Bf r 3 1 (AA (CB E B))::AT 3 cs):=by
 refine BO (args:=[_,_]) (L:=Ej encP gm m::Bf vb 3 1 (AA B)::AT 3 cs) Tryz.func86 J Tryz.ntmps86 J hO ?_;refine DC.slcs (i:=1) (xs:=B) J (by omega) ?_;rintro A c rfl hA;refine Zs<|Za<|Zx<|Zs ?_;refine Zz [2]<|Zx<|Ai<|Zs ?_;refine Zz [3]<|Zx<|As ?_;refine DC.own (fun w hw=>Ck (t:=3) (m:=1) (Ck (t:=3) (m:=1) hw)) ?_;let ca:=Bf (.slice A B.length c) 3 1 (AA B);refine AS (ι:=SdI) (fun j=>j.i<=B.length)
  (fun j=>[(0,.slice A B.length c),(1,.map (some gm)),(5,j.v5),(6,j.v6),(11,.slice A B.length c),(12,Iv B.length),(13,Iv j.i)])
  (fun j=>Ej encP gm m::Bf j.v5 3 1 (AA ((B.take j.i).filter fun v=>decide (srt (B.headD 0) v∉E)))::Bf j.v6 3 1 (AA ((B.take j.i).filter fun v=>decide (srt (B.headD 0) v∈E)))::ca::AT 3 cs) (fun j=>B.length-j.i)
  ⟨0,Nv,Nv⟩ (A1E _) ⟨rfl,rfl,rfl,rfl,rfl,rfl,rfl,trivial⟩ (CY (Bg (Bg (Ay _)))) ?_;rintro⟨i,v5,v6⟩ hi;dsimp only at hi ⊢;refine Zs<|Zc<|Zx<|Ai ?_;refine Zd ?_ ?_<;>intro c3
 .have hlt:i<B.length:=by simpa using c3
  obtain⟨ad,rfl⟩:=hA (fun e=>by rw[e] at hlt;simp at hlt);obtain⟨x,hx⟩:∃x,B[i]? =some x:=⟨_,A1d hlt⟩;obtain⟨x0,hx0⟩:∃x,B[0]? =some x:=⟨_,A1d (by omega)⟩;have hhd:B.headD 0=x0:=by rw[List.headD_eq_head?_getD,A3J,hx0];rfl
  have hl5:=A2J (fun v=>decide (srt (B.headD 0) v∉E)) (B.take i);have hl6:=A2J (fun v=>decide (srt (B.headD 0) v∈E)) (B.take i);rw[A3g] at hl5 hl6;refine Ao<|Aa<|Ai<|As<|Zs ?_;refine Zj (ad.add i) ?_;refine Zu (AG J J CA (Cv (i:=3) J hx (by omega))) ?_;refine Za<|Zx<|Zs ?_;refine Zz [2] ?_;refine Zj (ad.add 0) ?_;refine Zu (AG J J CA (Cv (i:=3) J hx0 (by omega))) ?_;refine Zm ?_;refine AU J J (BT Y6 J J J (Lc:=Ej encP gm m::([Bf v5 3 1 (AA ((B.take i).filter fun v=>decide (srt (B.headD 0) v∉E))),Bf v6 3 1 (AA ((B.take i).filter fun v=>decide (srt (B.headD 0) v∈E))),Bf (.slice (some ad) B.length c) 3 1 (AA B)]++AT 3 cs)) (F:=[]) (by rw[A1O];exact .refl _) (fun k hk=>hk) (fun w' hw=>Hj hw.self hm hs)) ?_;rintro _ _ ⟨_,⟨rfl,A',l',c',rfl⟩,rfl⟩;rw[hE,A1O,<-hhd];simp only[zs];refine Zz [5]<|Zx<|Zs ?_;refine Zm<|Zx ?_;refine Zd ?_ ?_<;>intro c6
  .refine Ak<|Zz [2] ?_;refine ZL #[_] A1x Bw C6 fun g29=>?_;refine AU J J (Bt J J J A1x Bw Fz C6 J (by decide) (by decide) (fun w hw=>hw.perm (Bj (i:=3) J).symm) (.inl ⟨_,_,J,AW J⟩) J (CL [_] []) (by simp only[ints_length];omega)) ?_;rintro v30 _ rfl;refine Za<|Az<|An<|Aa<|Ak ?_;refine Zz [2]<|Az ?_;have h6:srt (B.headD 0) x∈E:=by simpa using c6
   refine AB ⟨i+1,v5,v30⟩ (by dsimp only;omega) (by dsimp only;omega) ⟨J,J,J,J,J,J,J,trivial⟩
    (CY (.cons' 2 J ?_ (.cons' 0 J ?_ (BC (DG _ _)))))
   .dsimp only;rw[Gl (E:=E) hx,if_neg (by simpa using h6),A1O]
   dsimp only;rw[Gl (E:=E) hx,if_pos (by simpa using h6),BW]
  refine Ak<|Zz [2] ?_;refine ZL #[_] A1x Bw C6 fun g33=>?_;refine AU J J (Bt J J J A1x Bw Fz C6 J (by decide) (by decide) (fun w hw=>hw.perm (Bj (i:=2) J).symm) (.inl ⟨_,_,J,AW J⟩) J (CL [_] []) (by simp only[ints_length];omega)) ?_;rintro v34 _ rfl;refine Za<|Az<|An<|Aa<|Ak ?_;refine Zz [2]<|Az ?_;have h6:¬srt (B.headD 0) x∈E:=by simpa using c6
  refine AB ⟨i+1,v34,v6⟩ (by dsimp only;omega) (by dsimp only;omega) ⟨J,J,J,J,J,J,J,trivial⟩
   (CY (.cons' 0 J ?_ (.cons' 1 J ?_ (BC (DG _ _)))))
  .dsimp only;rw[Gl (E:=E) hx,if_pos (by simpa using h6),BW]
  dsimp only;rw[Gl (E:=E) hx,if_neg (by simpa using h6),A1O]
 refine AN<|Ag<|Ag<|Aq<|Aa<|Ai ?_;have hie:i=B.length:=by simp at c3;omega
 subst hie;rw[A1T];have hl5:=A2J (fun v=>decide (srt (B.headD 0) v∉E)) B;have hl6:=A2J (fun v=>decide (srt (B.headD 0) v∈E)) B;refine DC.slcs (i:=2) (v:=v6) (xs:=B.filter fun v=>decide (srt (B.headD 0) v∈E)) J (by omega) ?_;rintro A6 c6' rfl hA6;refine Ak<|Zz [2] ?_;have hsrc:Src w (AY (Ej encP gm m::ca::AT 3 cs)) (Ej encP gm m::Bf v5 3 1 (AA (B.filter fun v=>decide (srt (B.headD 0) v∉E)))::Bf (.slice A6 (B.filter fun v=>decide (srt (B.headD 0) v∈E)).length c6') 3 1 (AA (B.filter fun v=>decide (srt (B.headD 0) v∈E)))::ca::AT 3 cs)
   (.slice A6 (B.filter fun v=>decide (srt (B.headD 0) v∈E)).length c6') (B.filter fun v=>decide (srt (B.headD 0) v∈E)).length (AA (B.filter fun v=>decide (srt (B.headD 0) v∈E))):=by
  by_cases hz:(B.filter fun v=>decide (srt (B.headD 0) v∈E))=[]
  .rw[hz];cases A6 with
   | none=>exact .inr ⟨_,rfl,rfl,rfl⟩
   | some ad=>exact .inl ⟨ad,_,rfl,fun w hw j u hj=>by simp[AA] at hj⟩
  obtain⟨ad,rfl⟩:=hA6 hz;exact .inl ⟨ad,_,J,KH (i:=2) J (by omega)⟩
 refine AU J J (Bt J J J A1x Bw Fz C6 J (by decide) (by decide) (fun w hw=>hw.perm (Bj (i:=1) J).symm) hsrc (by simp) (CL _ []) (by simp only[ints_length];omega)) ?_;rintro v38 _ rfl;refine Za<|Zx<|At ?_;refine AZ (E':=[(4,_)]) (L':=Ej encP gm m::Bf v38 3 1 (AA (CB E B))::AT 3 cs) ⟨J,trivial⟩ (BC (.cons' 0 J (by unfold CB;rw[BW]) (Ks _ (DG _ _)))) ?_;refine Zh ?_
 rfl
end
theorem DX.src2{w0 w:World}{L:List Chunk}{v:Value}{es:List Pr}(h:DX w0 v es):Src w0 [] L v es.length (Cj es):=by
 obtain⟨A,cap,rfl,hr,_,_,_⟩:=h;refine Td (m:=2) hr (by simp) (by simp) (fun hA=>?_);subst hA;cases es with
 | nil=>rfl
 | cons e r=>obtain⟨ad,e',_⟩:=hr.pair (i:=0) (e:=e) rfl;cases e'
theorem FD.src2{w0 w:World}{L:List Chunk}{v:Value}{xs:List Int}(h:FD w0 v xs):Src w0 [] L v xs.length (AA xs):=by
 obtain⟨A,cap,rfl,hr,_,_,_⟩:=h;refine Td (m:=1) hr (by simp) (by simp) (fun hA=>?_);subst hA;cases xs with
 | nil=>rfl
 | cons e r=>obtain⟨ad,e',_⟩:=hr.int (i:=0) (x:=e) rfl;cases e'
theorem A1b{w0 w:World}{K:List Nat}{F:List Chunk}{t t':Nat}{v:Value}{rs:RL}(hw:AR w0 K w (Bf v t' 1 (Ba rs)::(F++AT t rs)))(hb:rs.length<=17592186044416)(hf:∀p,p∈rs->p.2.length<=17592186044416):IM w v (rs.map Prod.snd):=by
 obtain⟨A,len,cap,rfl,hl,hr,h1,h2⟩:=Ft hw;rw[rowsV_length,A3d] at hl;subst hl;refine⟨A,cap,by simp,fun i l hi=>?_,by simpa using h1,h2,by simpa using hb⟩;rw[A1U,A2o] at hi;obtain⟨p,hp,rfl⟩:=hi;have hg:(Ba rs)[i]? =some p.1:=by simp[Ba,hp]
 obtain⟨ad,hA,hc⟩:=hr i p.1 hg;refine⟨ad,p.1,hA,hc,HT (F:=Bf (.slice A rs.length cap) t' 1 (Ba rs)::F) (by simpa using hw) hp (hf p (A1h hp))⟩
structure CcI where
 i:Nat
 v:Value
 rs:RL
theorem Nw{pl:Bool}{ls:List (List Int)}{cs:List Pr}{v u:Value}{w:World}(hv:IM w v ls)(hu:DX w u cs)(hn:ls.length<=1000000000)(hs:∀l,l∈ls->l.length<=1000000000):
  Calls A1c 7 #[.agg #[.bool pl,v,u]] w (Ret w [] fun r L=>∃Av lv cv Au lu cu rs,r= .agg #[.bool pl,.slice Av lv cv,.slice Au lu cu]/\rs.map Prod.snd=ls/\
   L=Bf (.slice Av lv cv) 37 1 (Ba rs)::Bf (.slice Au lu cu) 39 2 (Cj cs)::AT 3 rs):=by
 have hu0:=hu;obtain⟨Al,cl,rfl,hr,hlc,hcm,hle⟩:=hv;obtain⟨Ac,cc,rfl,hrc,hlcc,hcmc,hlec⟩:=hu;refine cO Tryz.func7 Tryz.ntmps7<|Zs ?_;refine ZB fun g1=>?_;refine Zw (DL J ze27 J) fun g2=>Zx<|Ai ?_;refine Fw 320410210 [0,1,3,4,2,5,6,7,8] [] (fun w hw=>hw.pick .nil) ?_;refine Yz [1,1,0] ?_;refine A8 J J J J (Eo (cs:=#[]) J J A1y CF Fs J (by decide) (by decide) J J) fun g7=>?_;refine CQ J J J J (N8 J J J A1y CF ZM Fs J (by decide) (by decide) (DX.src2 (w:=w) hu0) (by simp) (by omega)) ?_;rintro _ _ ⟨⟨Au,lu,cu,rfl⟩,rfl⟩;refine Yo J (Dy (cs:=#[_,_,_]) J J bs27 J J) ?_;refine A8 J J J J (DL J ze27 J) fun g3=>?_;refine BF.sto (V:=[AC g3 27 #[.bool false,.slice none 0 0,.slice none 0 0],P6 (.slice Au lu cu) g7 39 2 (Cj cs),AC g7 39 #[],AC g2 27 #[.bool false,.slice none 0 0,.slice none 0 0],AC g1 27 #[.bool pl,.slice Al ls.length cl,.slice Ac cs.length cc]]) J J J J J (B3 (cs':=#[_,_,_]) J J J XG J (A1f J) J) (fun w hw=>hw.pick (.nil)) ?_;refine AF J ?_;simp only[zq,zr];refine Aa<|Ai<|Zs<|Za<|Zx<|As ?_;refine DC.own (M:=Bf (.slice none 0 0) 37 1 []::AC g3 27 #[.bool pl,.slice none 0 0,.slice Au lu cu]::Bf (.slice Au lu cu) 39 2 (Cj cs)::AC g2 27 #[.bool false,.slice none 0 0,.slice none 0 0]::AC g1 27 #[.bool pl,.slice Al ls.length cl,.slice Ac cs.length cc]::AT 3 []) (fun w hw=>Ck (t:=37) (m:=1) ?_) ?_
 .have k3:AR _ _ w (Bf _ _ _ _::_):=UY (by decide) (hw.pick (.cons 1 rfl (.cons 1 rfl (Ay _))));exact k3.pick (.cons 1 J (.cons 0 J (Ay _)))
 refine AS (ι:=CcI) (fun j=>j.i<=ls.length/\j.rs.map Prod.snd=ls.take j.i)
  (fun j=>[(1,.pointer (some ⟨g1,0,none⟩)),(2,.pointer (some ⟨g2,0,none⟩)),(3,.pointer (some ⟨g3,0,none⟩)),(4,.int .i64 j.i)])
  (fun j=>Bf j.v 37 1 (Ba j.rs)::AC g3 27 #[.bool pl,j.v,.slice Au lu cu]::Bf (.slice Au lu cu) 39 2 (Cj cs)::AC g2 27 #[.bool false,.slice none 0 0,.slice none 0 0]::AC g1 27 #[.bool pl,.slice Al ls.length cl,.slice Ac cs.length cc]::AT 3 j.rs) (fun j=>ls.length-j.i) ⟨0,.slice none 0 0,[]⟩ ⟨A1E _,J⟩ ⟨J,J,J,J,trivial⟩ (Ay _) ?_;rintro⟨i,v,rs⟩ ⟨hi,hrs⟩;dsimp only at hi hrs ⊢;have hrl:rs.length=i:=by have:=congrArg List.length hrs;simp at this;omega
 refine Ai<|Zs<|Zz [2,2]<|Zx ?_;refine Zd ?_ ?_<;>intro c3
 .have hlt:i<ls.length:=by simpa using c3
  obtain⟨l,hl⟩:∃l,ls[i]? =some l:=⟨_,A1d hlt⟩;obtain⟨ad,lv,rfl,hc,hsl⟩:=hr i l hl;have hll:=hs l (A1h hl);have hlsh:∃A c,lv= .slice A l.length c:=by obtain⟨A,c,h,_⟩:=hsl;exact⟨A,c,h⟩
  obtain⟨Ax,cx,rfl⟩:=hlsh;refine Ao<|Aa<|Ai<|As ?_;refine Fw 3032410010210 [0,1,3,4,5,6,7,2,8,9,10,11,12] [] (fun w hw=>hw.pick .nil) ?_;refine Yz [1,1,1] ?_;refine Yj (ad.add i) ?_;refine Yh (A7 hc) ?_;refine A8 J J J J (Eo (cs:=#[]) J J A1x Bw C6 J (by decide) (by decide) J J) fun g21=>?_;refine CQ J J J J (N8 J J J A1x Bw Fz C6 J (by decide) (by decide) (FD.src2 (w:=w) hsl) (by simp) (by omega)) ?_;rintro _ _ ⟨⟨A27,l27,c27,rfl⟩,rfl⟩;refine A8 J J J J (Eo (cs:=#[_]) J J A1B ET Gq J (by decide) (by decide) J J) fun g28=>?_;refine C5 (V:=(AC g28 37 #[.slice A27 l27 c27]::P6 (.slice A27 l27 c27) g21 3 1 (AA l)::AC g21 3 #[]::Bf v 37 1 (Ba rs)::AC g3 27 #[.bool pl,v,.slice Au lu cu]::Bf (.slice Au lu cu) 39 2 (Cj cs)::AC g2 27 #[.bool false,.slice none 0 0,.slice none 0 0]::AC g1 27 #[.bool pl,.slice (some ad) ls.length cl,.slice Ac cs.length cc]::AT 3 rs)) J J J J J ((Bt (F:=AC g28 37 #[.slice A27 l27 c27]::P6 (.slice A27 l27 c27) g21 3 1 (AA l)::AC g21 3 #[]::AC g3 27 #[.bool pl,v,.slice Au lu cu]::Bf (.slice Au lu cu) 39 2 (Cj cs)::AC g2 27 #[.bool false,.slice none 0 0,.slice none 0 0]::AC g1 27 #[.bool pl,.slice (some ad) ls.length cl,.slice Ac cs.length cc]::AT 3 rs) (vs:=Ba rs) (news:=[.slice A27 l27 c27]) (k:=1) J J J A1B ET Sx Gq J (by decide) (by decide) (fun w hw=>hw.pick (.cons 3 J (Ay _))) (.inl ⟨_,_,J,AW J⟩) J (fun u hu=>by rw[A2F.1 hu];rfl) (by simp;omega)).shape) (fun v L' hC w hw=>hw.pick (.nil)) ?_;rintro _ _ ⟨⟨A29,l29,c29,rfl⟩,rfl⟩;refine Yz [1] ?_;refine AO J J J J (AP (cs':=#[_,_,_]) J J J sz25 J (A1f J) J) (fun w hw=>hw.pick (.nil)) ?_;refine AF J ?_;simp only[zq,zr];refine An<|Aa<|Ak<|Zz [3]<|Az ?_;refine Dl.own (M:=Bf (.slice A29 l29 c29) 37 1 (Ba (rs++[(.slice A27 l27 c27,l)]))::AC g3 27 #[.bool pl,.slice A29 l29 c29,.slice Au lu cu]::Bf (.slice Au lu cu) 39 2 (Cj cs)::AC g2 27 #[.bool false,.slice none 0 0,.slice none 0 0]::AC g1 27 #[.bool pl,.slice (some ad) ls.length cl,.slice Ac cs.length cc]::AT 3 (rs++[(.slice A27 l27 c27,l)])) (fun w hw=>?_) ?_
  .have e1:Ba (rs++[(.slice A27 l27 c27,l)])=Ba rs++[.slice A27 l27 c27]:=by simp[Ba]
   have e2:AT 3 (rs++[(.slice A27 l27 c27,l)])=AT 3 rs++[Bf (.slice A27 l27 c27) 3 1 (AA l)]:=by simp[AT]
   rw[e1,e2];have k3:AR _ _ w (Bf _ _ _ _::_):=UY (by decide) (hw.pick (.cons 2 rfl (.cons 2 rfl (.cons 0 rfl (.cons 1 rfl (.cons 1 rfl (.cons 1 rfl (.cons 1 rfl (DG _ _)))))))));refine k3.perm ?_;exact A1v (l₁:=Bf (.slice A29 l29 c29) 37 1 (Ba rs++[.slice A27 l27 c27])::AC g3 27 #[.bool pl,.slice A29 l29 c29,.slice Au lu cu]::Bf (.slice Au lu cu) 39 2 (Cj cs)::AC g2 27 #[.bool false,.slice none 0 0,.slice none 0 0]::AC g1 27 #[.bool pl,.slice (some ad) ls.length cl,.slice Ac cs.length cc]::AT 3 rs) (l₂:=[Bf (.slice A27 l27 c27) 3 1 (AA l)])
  refine AB ⟨i+1,.slice A29 l29 c29,rs++[(.slice A27 l27 c27,l)]⟩ (by dsimp only;omega) ⟨by dsimp only;omega,by dsimp only;rw[A1Y,hrs,A1W,hl];rfl⟩ ⟨J,J,J,J,trivial⟩ (Ay _)
 refine AN<|Ag<|Ag<|Aq<|Aa<|Ai ?_;have hie:i=ls.length:=by simp at c3;omega
 refine LR (i:=0) (v:=v) J ?_;rintro Av cv rfl hAv;refine Ak ?_;refine CR [_,_,_] ?_;refine Zq #[_,_,_]<|Zx<|At ?_;refine Co (cs:=#[_,_,_]) (.inl J) J J ag27 XG ?_;refine⟨Bf (.slice Av (Ba rs).length cv) 37 1 (Ba rs)::Bf (.slice Au lu cu) 39 2 (Cj cs)::AT 3 rs,fun w hw=>?_,Av,_,cv,Au,lu,cu,rs,J,by rw[hrs,hie,A1T],J⟩;exact hw.pick (.cons 0 J (.cons 1 J (Ks _ (Ks _ (DG _ _)))))
def OQ(w:World)(v:Value)(bs:List UInt8):Prop:=
 ∃A cap,v= .slice A bs.length cap/\Rd w A (byc bs)/\bs.length<=cap/\cap<=9223372036854775807
section
variable{w0 w:World}{K:List Nat}{L:List Chunk}{v:Value}{bs:List UInt8}
theorem OQ.keepK(h:OQ w0 v bs)(hk:∀ad l c,v= .slice (some ad) l c->ad.block∉K)(hw:AR w0 K w L):OQ w v bs:=by
 obtain⟨A,cap,rfl,hr,h1,h2⟩:=h;exact⟨A,cap,rfl,hr.keep (fun ad e=>hk ad _ _ (by rw[e])) hw,h1,h2⟩
theorem OQ.keep0(h:OQ w0 v bs)(hw:AR w0 [] w L):OQ w v bs:=h.keepK (fun _ _ _ _=>by simp) hw
theorem Rd.byte{A:Option Addr}{i:Nat}{x:UInt8}(h:Rd w0 A (byc bs))(hi:bs[i]? =some x):∃ad,A=some ad/\w0.cell? (ad.add i)=some (.int .u8 x.toNat):=h _ _ (byc_get hi)
theorem OQ.at(h:OQ w0 v bs){i:Nat}{x:UInt8}(hi:bs[i]? =some x):∃ad cap,v= .slice (some ad) bs.length cap/\w0.cell? (ad.add i)=some (.int .u8 x.toNat):=by
 obtain⟨A,cap,rfl,hr,_⟩:=h;obtain⟨ad,rfl,hc⟩:=hr.byte hi;exact⟨ad,cap,rfl,hc⟩
end
def ByO(v:Value)(bs:List UInt8)(K:List Nat):Prop:=bs≠[]->∀ad l c,v= .slice (some ad) l c->ad.block∉K
section
variable{w0 w:World}{K:List Nat}{L:List Chunk}{v:Value}{bs:List UInt8}
theorem OQ.keep(h:OQ w0 v bs)(ho:ByO v bs K)(hw:AR w0 K w L):OQ w v bs:=by
 by_cases he:bs=[]
 .subst he;obtain⟨A,cap,rfl,hr,h1,h2⟩:=h;exact⟨A,cap,rfl,fun j u hj=>by simp[byc,Lib.byteCells] at hj,h1,h2⟩
 exact h.keepK (ho he) hw
theorem ByO.step(h:OQ w0 v bs)(ho:ByO v bs K)(hw:AR w0 K w L):ByO v bs (AY L):=by
 intro he ad l c hva hin;obtain⟨A,cap,rfl,hr,h1,h2⟩:=h;cases hva;obtain⟨e,he0⟩:∃e,bs[0]? =some e:=⟨_,A1d (A2k.2 he)⟩;obtain⟨ad',ha,hc⟩:=hr.byte he0;cases ha;have hlt:=World.block_lt_of_cell? w0 _ hc;have hb:(ad.add 0).block=ad.block:=by unfold Addr.add;split<;>rfl
 rw[hb] at hlt;rcases hw.fresh _ hin with h5|h5
 .exact ho he ad _ _ rfl h5
 omega
theorem OQ.has{ad:Addr}{l c i:Nat}{x:UInt8}(h:OQ w0 (.slice (some ad) l c) bs)(ho:ByO (.slice (some ad) l c) bs K)(hi:bs[i]? =some x):Ll w0 K L (ad.add i) (.int .u8 x.toNat):=by
 intro w hw;obtain⟨ad',cap,e,hc⟩:=(h.keep ho hw).at hi;cases e;exact hc
theorem OQ.len(h:OQ w0 v bs):∃A c,v= .slice A bs.length c:=by
 obtain⟨A,c,e,_⟩:=h;exact⟨A,c,e⟩
end
structure Tk where
 kd:Int
 fr:Int
 en:Int
 nu:Int
def GD:List Tk->List Value
 | []=>[]
 | t::r=>.int .i64 t.kd:: .int .i64 t.fr:: .int .i64 t.en:: .int .i64 t.nu::GD r
@[simp] theorem tks_length (l:List Tk):(GD l).length=l.length*4:=by
 induction l with
 | nil=>rfl
 | cons e r ih=>simp[GD,ih,A3i]
theorem LX(a b:List Tk):GD (a++b)=GD a++GD b:=by
 induction a with
 | nil=>rfl
 | cons e r ih=>simp[GD,ih]
theorem O1:∀{l:List Tk} {i:Nat} {t:Tk},l[i]? =some t->(GD l)[i*4]? =some (.int .i64 t.kd)/\(GD l)[i*4+1]? =some (.int .i64 t.fr)/\(GD l)[i*4+2]? =some (.int .i64 t.en)/\(GD l)[i*4+3]? =some (.int .i64 t.nu)
 | [],i,e,h=>by simp at h
 | x::r,0,e,h=>by simp at h;subst h;simp[GD]
 | x::r,i+1,e,h=>by
  simp at h;have:=O1 h;rw[A3i];exact⟨by simpa [GD] using this.1,by simpa [GD] using this.2.1,by simpa [GD] using this.2.2.1,by simpa [GD] using this.2.2.2⟩
def DW(b:UInt8):Bool:=decide (48<=b.toNat)&&decide (b.toNat<=57)
def Ge:List UInt8->Nat
 | []=>0
 | b::r=>if DW b then Ge r+1 else 0
def MS(l:List UInt8):Int:=l.foldl (fun n b=>10*n+((b.toNat:Int)-48)) 0
theorem OC(l:List UInt8)(b:UInt8):MS (l++[b])=10*MS l+((b.toNat:Int)-48):=by simp[MS]
inductive ScA where
 | ok (l:List Tk)
 | bad (at' err:Int)
def C8(at':Nat)(l:List UInt8)(acc:List Tk):ScA:=
 match l with
 | []=>.ok (acc++[⟨3,at',at',0⟩])
 | c::r=>
  if DW c then
   if 9<Ge (c::r)\/(1<Ge (c::r)/\c.toNat=48) then .bad at' 12
   else C8 (at'+(Ge r+1)) (r.drop (Ge r)) (acc++[⟨1,at',(at'+(Ge r+1):Nat),MS ((c::r).take (Ge (c::r)))⟩])
  else if c.toNat=10 then C8 (at'+1) r (acc++[⟨2,at',(at'+1:Nat),0⟩])
  else if c.toNat=32\/c.toNat=9\/c.toNat=13 then C8 (at'+1) r acc
  else .bad at' 11
termination_by l.length
decreasing_by all_goals simp<;>omega
def FB(bs:List UInt8):ScA:=if 33554432<bs.length then .bad 33554432 10 else C8 0 bs []
theorem OB{bs:List UInt8}{i:Nat}{c:UInt8}(h:bs[i]? =some c)(hd:DW c=true):Ge (bs.drop i)=Ge (bs.drop (i+1))+1:=by
 have hl:=(A1e.1 h).1;rw[A2e hl];have e:bs[i]=c:=(A1e.1 h).2;rw[e];simp[Ge,hd]
theorem Y9{bs:List UInt8}{i:Nat}(h:∀c,bs[i]? =some c->DW c=false):Ge (bs.drop i)=0:=by
 by_cases hl:i<bs.length
 .rw[A2e hl];have:=h _ (A1d hl);simp[Ge,this]
 rw[List.drop_eq_nil_of_le (by omega)];rfl
theorem Si{bs:List UInt8}:∀(k i:Nat),(∀j,i<=j->j<i+k->∃c,bs[j]? =some c/\DW c=true)->Ge (bs.drop i)=k+Ge (bs.drop (i+k))
 | 0,i,h=>by simp
 | k+1,i,h=>by
  obtain⟨c,h1,h2⟩:=h i (A1F _) (by omega);rw[OB h1 h2,Si k (i+1) (fun j h3 h4=>h j (by omega) (by omega)),show i+1+k=i+(k+1) by omega];omega
theorem V3{bs:List UInt8}{i:Nat}{acc:List Tk}(h:bs.length<=i)(hi:i<=bs.length):C8 i (bs.drop i) acc= .ok (acc++[⟨3,i,i,0⟩]):=by
 rw[List.drop_eq_nil_of_le h];simp[C8]
theorem N2{bs:List UInt8}{i k:Nat}{c:UInt8}{acc:List Tk}(h:bs[i]? =some c)(hd:DW c=true)(hk:Ge (bs.drop i)=k)(h9:k<=9)(h0:¬(1<k/\c.toNat=48)):
  C8 i (bs.drop i) acc=C8 (i+k) (bs.drop (i+k)) (acc++[⟨1,i,(i+k:Nat),MS ((bs.drop i).take k)⟩]):=by
 have hl:=(A1e.1 h).1;have e:bs[i]=c:=(A1e.1 h).2;have hk':=OB h hd;have e2:bs.drop i=c::bs.drop (i+1):=by rw[A2e hl,e]
 have e3:Ge (bs.drop (i+1))+1=k:=by omega
 have e4:Ge (c::bs.drop (i+1))=k:=by rw[<-e2];exact hk
 have e5:(bs.drop (i+1)).drop (Ge (bs.drop (i+1)))=bs.drop (i+k):=by rw[List.drop_drop];congr 1;omega
 rw[e2,C8,if_pos hd,e4,if_neg (fun h1=>h1.elim (fun h=>by omega) h0),e5,e3]
theorem Jy{bs:List UInt8}{i k:Nat}{c:UInt8}{acc:List Tk}(h:bs[i]? =some c)(hd:DW c=true)(hk:Ge (bs.drop i)=k)(h9:9<k\/(1<k/\c.toNat=48)):
  C8 i (bs.drop i) acc= .bad i 12:=by
 have hl:=(A1e.1 h).1;have e:bs[i]=c:=(A1e.1 h).2;have e2:bs.drop i=c::bs.drop (i+1):=by rw[A2e hl,e]
 have e4:Ge (c::bs.drop (i+1))=k:=by rw[<-e2];exact hk
 rw[e2,C8,if_pos hd,e4,if_pos h9]
theorem Tg{bs:List UInt8}{i:Nat}{c:UInt8}{acc:List Tk}(h:bs[i]? =some c)(hd:DW c=false)(hc:c.toNat=10):
  C8 i (bs.drop i) acc=C8 (i+1) (bs.drop (i+1)) (acc++[⟨2,i,(i+1:Nat),0⟩]):=by
 have hl:=(A1e.1 h).1;have e:bs[i]=c:=(A1e.1 h).2;rw[A2e hl,e,C8,if_neg (by simp[hd]),if_pos hc]
theorem Km{bs:List UInt8}{i:Nat}{c:UInt8}{acc:List Tk}(h:bs[i]? =some c)(hd:DW c=false)(hc:c.toNat≠10)(h3:c.toNat=32\/c.toNat=9\/c.toNat=13):
  C8 i (bs.drop i) acc=C8 (i+1) (bs.drop (i+1)) acc:=by
 have hl:=(A1e.1 h).1;have e:bs[i]=c:=(A1e.1 h).2;rw[A2e hl,e,C8,if_neg (by simp[hd]),if_neg hc,if_pos h3]
theorem V4{bs:List UInt8}{i:Nat}{c:UInt8}{acc:List Tk}(h:bs[i]? =some c)(hd:DW c=false)(hc:c.toNat≠10)(h3:¬(c.toNat=32\/c.toNat=9\/c.toNat=13)):
  C8 i (bs.drop i) acc= .bad i 11:=by
 have hl:=(A1e.1 h).1;have e:bs[i]=c:=(A1e.1 h).2;rw[A2e hl,e,C8,if_neg (by simp[hd]),if_neg hc,if_neg h3]
section
variable{P:Program}{n:Nat}{ds:List Deferred}{E:Env}{o:Oper}{x y z:Operand}{v u:Value}
theorem A0r{i:Int}(h:0<=i/\i<256):IntKind.u8.wrap i=i:=by
 unfold IntKind.wrap;simp[IntKind.bits,IntKind.signed];omega
theorem p_sub8{t t':TypeId}{i j:Int}(ho:o.op= .binOp .sub t x y t')(hx:ev n E x=some (.int .u8 i))(hy:ev n E y=some (.int .u8 j))
 (hb:0<=i-j/\i-j<256):EL P n ds E o (.int .u8 (i-j)):=Ff (r:=0) ho hx hy fun w=>by simp[binOp,Op.intArith,A0r hb]
theorem TA{src dst:Nat}{i:Int}(ho:o.op= .convert src dst x)(hx:ev n E x=some (.int .u8 i))(hs:P.underlying src=some (.int .u8))(hd:P.underlying dst=some (.int .i64))(h0:0<=i)(h1:i<256):
  EL P n ds E o (.int .i64 i):=by
 intro a w ha;have hk:P.intKind dst= .i64:=by simp[Program.intKind,hd]
 have:=run_convert_int (P:=P) w src dst .u8 i (by rw[hs];rfl) (by rw[hk];exact hd);rw[hk,DY (by omega)] at this;simp[execOp,ho,ha.ev hx,this]
end
section
variable{P:Program}{ops:Array Oper}{w0 w:World}{K:List Nat}{n:Nat}{ds:List Deferred}{E:Env}{L F:List Chunk}{o:Oper}{x y z:Operand}{v u:Value}{Q:Exit->Act->World->Prop}
theorem DC.scope{c:Code}(h:DC P w0 K n ds (Exit.noGoto Q) c E L):DC P w0 K n ds Q (.scope c) E L:=fun a w ha hL=>wp_scope_straight (h a w ha hL)
theorem DC.label{l:Nat}(h:Dl w0 K n ds (Q .normal) E L):DC P w0 K n ds Q (.label l) E L:=fun a w ha hL=>wp_label (h a w ha hL)
theorem Ci(h:Dl w0 K n ds (Q .ret) E L):Dl w0 K n ds (Exit.noGoto Q .ret) E L:=h
theorem U7{ty:TypeId}{g t:Nat}{cs:Array Value}(hg:w.heap[g]? =some (.cells cs t (0,0)))(ht:CG P ty=some true)(hs:BD P ty=some cs.size):(loadVar ty ⟨g,0,none⟩).run P w= .ok (.agg cs) w:=GF hg ht hs
theorem E6{fn:Func}{p q:Tmp}{ty ty':TypeId}{g t g' t':Nat}{cs cs':Array Value}{C:Value->List Chunk->Prop}{e:Exit}(he:e= .ret\/e= .normal)(hr:fn.results=#[.cell p ty,.cell q ty'])
 (hv:ev n E (.tmp p)=some (.pointer (some ⟨g,0,none⟩)))(hv':ev n E (.tmp q)=some (.pointer (some ⟨g',0,none⟩)))[h:Find L g t cs][h':Find L g' t' cs'](ht:CG P ty=some true)(hs:BD P ty=some cs.size)(ht':CG P ty'=some true)(hs':BD P ty'=some cs'.size)
 (hR:∃L',(∀w,AR w0 K w L->AR w0 K w L')/\C (.tuple #[.agg cs,.agg cs']) L'):Dl w0 K n [] (bodyPost P fn (Ret w0 K C) e) E L:=by
 intro a w ha hO;obtain⟨L',hL,hC⟩:=hR;have hp:a.tmps.getD p undef= .pointer (some ⟨g,0,none⟩):=by have:=ha.ev hv;simpa only[Act.eval] using this
 have hq:a.tmps.getD q undef= .pointer (some ⟨g',0,none⟩):=by have:=ha.ev hv';simpa only[Act.eval] using this
 have h1:a.defers=[]/\∃v,(results fn a.tmps).run P w= .ok v w/\Ret w0 K C (.returned v) w:=
  ⟨ha.defers,_,Kq hr hp hq (U7 (hO.holds _ h.mem) ht hs) (U7 (hO.holds _ h'.mem) ht' hs'),_,L',rfl,hC,hL w hO⟩;rcases he with rfl|rfl<;>exact h1
theorem PP{i j t l c:Nat}{ad:Addr}{tk:List Tk}{k:Tk}(hi:L[i]? =some (Bf (.slice (some ad) l c) t 4 (GD tk)))(hj:tk[j]? =some k):
  Jl w0 K L (ad.add (j*4)) [.int .i64 k.kd,.int .i64 k.fr,.int .i64 k.en,.int .i64 k.nu]:=by
 obtain⟨h1,h2,h3,h4⟩:=O1 hj;intro w hw m u hm;have hr:=hw.perm (Bj hi).symm;obtain⟨A,len,cap,e,_,hR,_⟩:=Ft hr;cases e;have key:∀{q:Nat} {u:Value},(GD tk)[j*4+q]? =some u->w.cell? ((ad.add (j*4)).add q)=some u:=by
  intro q u hq;obtain⟨ad',e,hc⟩:=hR _ _ hq;cases e;by_cases h0:q=0
  .subst h0;have:(ad.add (j*4)).add 0=ad.add (j*4):=by simp[Addr.add]
   rw[this];exact hc
  rw[Kc _ _ _ (by omega)];exact hc
 match m,hm with
 | 0,hm=>simp at hm;subst hm;exact key h1
 | 1,hm=>simp at hm;subst hm;exact key h2
 | 2,hm=>simp at hm;subst hm;exact key h3
 | 3,hm=>simp at hm;subst hm;exact key h4
theorem F5{i j t l c:Nat}{ad:Addr}{tk:List Tk}{k:Tk}(hi:L[i]? =some (Bf (.slice (some ad) l c) t 4 (GD tk)))(hj:tk[j]? =some k)(q:Nat)(hq:[Value.int .i64 k.kd,.int .i64 k.fr,.int .i64 k.en,.int .i64 k.nu][q]? =some u):
  Ll w0 K L ((ad.add (j*4)).add q) u:=fun w hw=>PP hi hj w hw q u hq
def TkV(w:World)(v:Value)(tk:List Tk):Prop:=∃A cap,v= .slice A tk.length cap/\Rd w A (GD tk)/\tk.length<=cap/\cap<=9223372036854775807
theorem O0{t:Nat}{tk:List Tk}(hw:AR w0 K w L)(i:Nat)(h:L[i]? =some (Bf v t 4 (GD tk))):TkV w v tk:=by
 obtain⟨A,len,cap,rfl,h1,hr,h2,h3⟩:=Ft (hw.perm (Bj h).symm);simp at h1;obtain rfl:tk.length=len:=by omega
 exact⟨A,cap,rfl,hr,h2,h3⟩
theorem Rd.tk{A:Option Addr}{tk:List Tk}{i:Nat}{k:Tk}(h:Rd w A (GD tk))(hi:tk[i]? =some k):∃ad,A=some ad/\∀(q:Nat) u,[Value.int .i64 k.kd,.int .i64 k.fr,.int .i64 k.en,.int .i64 k.nu][q]? =some u->w.cell? (ad.add (i*4+q))=some u:=by
 obtain⟨h1,h2,h3,h4⟩:=O1 hi;obtain⟨ad,rfl,_⟩:=h _ _ h1;refine⟨ad,rfl,fun q u hq=>?_⟩;have key:∀{q:Nat} {u:Value},(GD tk)[i*4+q]? =some u->w.cell? (ad.add (i*4+q))=some u:=by
  intro q u hq;obtain⟨ad',e,hc⟩:=h _ _ hq;cases e;exact hc
 match q,hq with
 | 0,hq=>simp at hq;subst hq;exact key h1
 | 1,hq=>simp at hq;subst hq;exact key h2
 | 2,hq=>simp at hq;subst hq;exact key h3
 | 3,hq=>simp at hq;subst hq;exact key h4
end
/-! ### lines of a graph's text -/
structure W4 where
 n:Int
 ps:List Pr
 hd:Bool
 m:Int
inductive LnA where
 | ok (s:W4)
 | bad (c a:Int)
def DV(s:W4)(l:List Tk):LnA:=
 match l with
 | []=>.bad 0 0
 | t::r=>
  if s.hd=false then
   match r with
   | [u]=>if 1048576<t.nu then .bad 21 t.fr else if 2097152<u.nu then .bad 22 u.fr else .ok ⟨t.nu,s.ps,true,u.nu⟩
   | _=>.bad 20 t.fr
  else if s.m<=(s.ps.length:Int) then .bad 26 t.fr
  else
   match r with
   | [u]=>if s.n<=t.nu then .bad 24 t.fr else if s.n<=u.nu then .bad 24 u.fr else .ok ⟨s.n,s.ps++[(t.nu,u.nu)],true,s.m⟩
   | _=>.bad 23 t.fr
def Ex(s:W4)(l:List Tk):List Tk->LnA
 | []=>.ok s
 | t::r=>
  if t.kd=1 then Ex s (l++[t]) r
  else
   match (if l=[] then LnA.ok s else DV s l) with
   | .bad c a=>.bad c a
   | .ok s'=>if t.kd=3 then .ok s' else Ex s' [] r
inductive RawA where
 | ok (n:Int) (ps:List Pr)
 | bad (c a:Int)
def WK(k:Nat):LnA->RawA
 | .bad c a=>.bad c a
 | .ok s=>if s.hd=false then .bad 20 k else if(s.ps.length:Int)<s.m then .bad 25 k else .ok s.n s.ps
def Md(bs:List UInt8):RawA:=
 if 16777216<bs.length then .bad 10 16777216
 else
  match FB bs with
  | .bad a e=>.bad e a
  | .ok tk=>WK bs.length (Ex ⟨0,[],false,0⟩ [] tk)
theorem WE{s:W4}{l r:List Tk}{t:Tk}(h:t.kd=1):Ex s l (t::r)=Ex s (l++[t]) r:=by simp[Ex,h]
theorem WF{s:W4}{l r:List Tk}{t:Tk}{c a:Int}(h:t.kd≠1)(hl:l≠[])(hb:DV s l= .bad c a):Ex s l (t::r)= .bad c a:=by simp[Ex,h,hl,hb]
theorem Oy{s s':W4}{l r:List Tk}{t:Tk}(h:t.kd≠1)(hl:(l=[]/\s'=s)\/(l≠[]/\DV s l= .ok s'))(h3:t.kd=3):Ex s l (t::r)= .ok s':=by
 rcases hl with⟨h1,rfl⟩|⟨h1,h2⟩
 .simp[Ex,h1,h3]
 simp[Ex,h1,h2,h3]
theorem R9{s s':W4}{l r:List Tk}{t:Tk}(h:t.kd≠1)(hl:(l=[]/\s'=s)\/(l≠[]/\DV s l= .ok s'))(h3:t.kd≠3):Ex s l (t::r)=Ex s' [] r:=by
 rcases hl with⟨h1,rfl⟩|⟨h1,h2⟩
 .simp[Ex,h,h1,h3]
 simp[Ex,h,h1,h2,h3]
theorem Wu{s s':W4}{l:List Tk}(h:DV s l= .ok s'):s'.ps.length<=s.ps.length+1:=by
 unfold DV at h;split at h
 .cases h
 split at h
 .split at h
  .split at h
   .cases h
   split at h
   .cases h
   cases h;simp
  cases h
 split at h
 .cases h
 split at h
 .split at h
  .cases h
  split at h
  .cases h
  cases h;simp
 cases h
theorem V2:∀(k:Nat) (l:List UInt8) (at':Nat) (acc:List Tk) {a e:Int},l.length<=k->C8 at' l acc= .bad a e->e≠0:=by
 intro k
 induction k with
 | zero=>
  intro l at' acc a e hk h;rw[A1s (by omega:l.length=0)] at h;simp[C8] at h
 | succ k ih=>
  intro l at' acc a e hk h
  match l,hk,h with
  | [],hk,h=>simp[C8] at h
  | c::r,hk,h=>
   simp at hk;rw[C8] at h;split at h
   .split at h
    .cases h;decide
    exact ih _ _ _ (by simp;omega) h
   split at h
   .exact ih _ _ _ hk h
   split at h
   .exact ih _ _ _ hk h
   cases h;decide
theorem V5{bs:List UInt8}{a e:Int}(h:FB bs= .bad a e):e≠0:=by
 unfold FB at h;split at h
 .cases h;decide
 exact V2 _ _ _ _ (A1F _) h
section
variable{w0 w:World}{K:List Nat}{F:List Chunk}
theorem Yr{t m len cap:Nat}{A:Option Addr}{vs:List Value}(hm:0<m)(hw:AR w0 K w (Bf (.slice A len cap) t m vs::F)):AR w0 K w (Bf (.slice A 0 cap) t m []::F):=by
 rcases DA hw with⟨e,rfl,_⟩|⟨g,len',cap',sp,e,h1,h2,h3,h4,hO⟩
 .cases e;exact hw
 cases e;exact Ca (m:=m) (by simp) hm (A1E _) h3 (by simp at h4 ⊢;omega) (by simp) hO
theorem Wg{L:List Chunk}{t m len cap:Nat}{A:Option Addr}{vs:List Value}(i:Nat)(hi:L[i]? =some (Bf (.slice A len cap) t m vs))(hm:0<m)(hw:AR w0 K w L):AR w0 K w (Bf (.slice A 0 cap) t m []::L.eraseIdx i):=
 Yr hm (hw.perm (Bj hi).symm)
theorem Xd{P:Program}{n:Nat}{ds:List Deferred}{E:Env}{L:List Chunk}{v:Value}{Q:Exit->Act->World->Prop}{c:Code}{t:Nat}{tk:List Tk}(i:Nat)(hi:L[i]? =some (Bf v t 4 (GD tk)))(h:(∃A c,v= .slice A tk.length c)->DC P w0 K n ds Q c E L):DC P w0 K n ds Q c E L:=by
 intro a w ha hw;obtain⟨A,cap,e,_⟩:=O0 hw i hi;exact h ⟨A,cap,e⟩ a w ha hw
theorem Xe{P:Program}{n:Nat}{ds:List Deferred}{E:Env}{L:List Chunk}{v:Value}{Q:Exit->Act->World->Prop}{c:Code}{t:Nat}{es:List Pr}(i:Nat)(hi:L[i]? =some (Bf v t 2 (Cj es)))(hf:es.length<=8796093021952)(h:(∃A c,v= .slice A es.length c)->DC P w0 K n ds Q c E L):DC P w0 K n ds Q c E L:=by
 intro a w ha hw;obtain⟨A,cap,e,_⟩:=FG hw i hi hf;exact h ⟨A,cap,e⟩ a w ha hw
theorem GU{P:Program}{n:Nat}{ds:List Deferred}{E:Env}{L:List Chunk}{v:Value}{Q:Exit->Act->World->Prop}{c:Code}{t:Nat}{xs:List Int}(i:Nat)(hi:L[i]? =some (Bf v t 1 (AA xs)))(hf:xs.length<=17592186044416)(h:(∃A c,v= .slice A xs.length c)->DC P w0 K n ds Q c E L):DC P w0 K n ds Q c E L:=by
 intro a w ha hw;obtain⟨A,cap,e,_⟩:=C7 hw i hi hf;exact h ⟨A,cap,e⟩ a w ha hw
theorem A0h{P:Program}{n:Nat}{ds:List Deferred}{E:Env}{L:List Chunk}{Q:Exit->Act->World->Prop}{cd:Code}{t l c:Nat}{A:Option Addr}{xs:List Int}(i:Nat)(hi:L[i]? =some (Bf (.slice A l c) t 1 (AA xs)))(h:(0<xs.length->∃ad,A=some ad)->DC P w0 K n ds Q cd E L):DC P w0 K n ds Q cd E L:=by
 intro a w ha hw;refine h (fun h0=>?_) a w ha hw;obtain⟨A',len,cap,e,_,hR,_⟩:=Ft (hw.perm (Bj hi).symm);cases e;obtain⟨ad,e,_⟩:=hR.int (A1d h0);exact⟨ad,e⟩
end
def fro(g t:Nat)(cs:Array Value):Chunk:=
 ⟨[g],fun w=>∃fz,w.heap[g]? =some (.cells cs t fz),fun w w' h ⟨fz,hh⟩=>⟨fz,(h g (A1m ..)).trans hh⟩⟩
section
variable{P:Program}{w0 w:World}{K:List Nat}{n:Nat}{ds:List Deferred}{E:Env}{L F:List Chunk}{o:Oper}{x y z:Operand}{v u:Value}
theorem R5{g i k:Nat}{cs:Array Value}{t:Nat}(hg:w.heap[g]? =some (.cells cs t (0,0))):
  ∃fz,(w.freeze ⟨g,i,none⟩ k).heap[g]? =some (.cells cs t fz)/\(∀j,j≠g->(w.freeze ⟨g,i,none⟩ k).heap[j]? =w.heap[j]?)/\(w.freeze ⟨g,i,none⟩ k).heap.size=w.heap.size/\
   (w.freeze ⟨g,i,none⟩ k).os=w.os/\(w.freeze ⟨g,i,none⟩ k).tape=w.tape/\(w.freeze ⟨g,i,none⟩ k).output=w.output/\(w.freeze ⟨g,i,none⟩ k).drawn=w.drawn:=by
 unfold World.freeze;split
 .exact⟨_,hg,fun _ _=>rfl,rfl,rfl,rfl,rfl,rfl⟩
 refine⟨_,by simp[A2O,hg];rfl,fun j hj=>?_,by simp,rfl,rfl,rfl,rfl⟩;simp[A2O,Ne.symm hj]
theorem g_mark{t e g len cap:Nat}{cs:Array Value}(ho:o.op= .convert t t x)(hx:ev n E x=some (.slice (some ⟨g,0,none⟩) len cap))(ht:P.underlying t=some (.slice e))(he:P.underlying e=some (.int .u8))
 (hown:∀w,AR w0 K w L->AR w0 K w (AC g e cs::F)):SP P w0 K n ds E L o (fun v M=>v= .slice (some ⟨g,0,none⟩) len cap/\M=fro g e cs::F):=by
 intro a w ha hw;have hO:=hown w hw;have hg:w.heap[g]? =some (.cells cs e (0,0)):=hO.holds (AC g e cs) (A1m ..);have hsh:w.shape? g=some (e,cs.size):=by unfold World.shape?;rw[hg]
 have hrun:(execOp a.eval o).run P w= .ok (.value (.slice (some ⟨g,0,none⟩) len cap)) (w.freeze ⟨g,cs.size,none⟩ 1):=by
  simp[execOp,ho,ha.ev hx,convert,run_underlying ht,run_underlying he,markStringish,hsh]
 obtain⟨fz,h1,h2,h3,h4,h5,h6,h7⟩:=R5 (i:=cs.size) (k:=1) hg;unfold B1;rw[hrun];refine⟨_,⟨rfl,rfl⟩,?_⟩;have h1':AR w [g] (w.freeze ⟨g,cs.size,none⟩ 1) [fro g e cs]:=by
  refine⟨h4,h5,h6,?_,by omega,fun k hk hn=>h2 k (by simpa using hn),by simp[fro],fun q hq=>?_,fun q hq=>?_,fun c hc=>?_⟩
  .rw[h7];exact Lo.refl _
  .simp[fro] at hq;subst hq;exact .inl (by simp)
  .simp[fro] at hq;subst hq;rw[h3];exact(A1t.1 hg).1
  simp at hc;subst hc;exact⟨fz,h1⟩
 exact AR.frame (Lc:=[AC g e cs]) hO h1' (fun k hk=>by simp[AC] at hk ⊢;exact hk)
theorem byv_fro{g t cap:Nat}{bs:List UInt8}{sp:List Value}(hw:AR w0 K w L)(i:Nat)(hi:L[i]? =some (fro g t (byc bs++sp).toArray))(h1:bs.length<=cap)(h2:cap<=9223372036854775807):OQ w (.slice (some ⟨g,0,none⟩) bs.length cap) bs:=by
 refine⟨_,_,rfl,fun j u hj=>⟨_,rfl,?_⟩,h1,h2⟩;obtain⟨fz,hg⟩:=hw.holds _ (A1h hi);rw[AX,cell_of_row w g j _ t fz hg];have hjl:=(A1e.1 hj).1;simpa [A1o hjl] using hj
end
def pk(L:List Chunk):Chunk:=
 ⟨AY L,fun w=>∀c,c∈L->c.holds w,fun w w' h hh c hc=>c.loc w w' (fun g hg=>h g (KC.2 ⟨c,hc,hg⟩)) (hh c hc)⟩
section
variable{w0 w:World}{K:List Nat}{L F:List Chunk}
theorem own_pk(h:AR w0 K w (L++F)):AR w0 K w (pk L::F):=by
 have e:AY (pk L::F)=AY (L++F):=by simp[pk]
 refine⟨h.os,h.tape,h.output,h.drawn,h.size,h.old,by rw[e];exact h.nodup,fun g hg=>h.fresh g (by rwa [e] at hg),fun g hg=>h.lt g (by rwa [e] at hg),fun c hc=>?_⟩;rcases A1H.1 hc with rfl|hc
 .exact fun d hd=>h.holds d (A2w _ hd)
 exact h.holds c (A2N _ hc)
theorem Yp(h:AR w0 K w (pk L::F)):AR w0 K w (L++F):=by
 have e:AY (pk L::F)=AY (L++F):=by simp[pk]
 refine⟨h.os,h.tape,h.output,h.drawn,h.size,h.old,by rw[<-e];exact h.nodup,fun g hg=>h.fresh g (by rwa [<-e] at hg),fun g hg=>h.lt g (by rwa [<-e] at hg),fun c hc=>?_⟩;rcases A1C.1 hc with hc|hc
 .exact h.holds (pk L) (A1m ..) c hc
 exact h.holds c (A1q _ hc)
theorem TB{M:List Chunk}(i:Nat)(hi:M[i]? =some (pk L))(h:AR w0 K w M):AR w0 K w (L++M.eraseIdx i):=Yp (h.perm (Bj hi).symm)
end
def CertC(c:Chunk)(v u:Value)(ls:List (List Int))(cs:List Pr):Prop:=∀(w0:World) (K:List Nat) (w:World) (L:List Chunk) (i:Nat),AR w0 K w L->L[i]? =some c->IM w v ls/\DX w u cs
theorem Me{pl:Bool}{ls:List (List Int)}{cs:List Pr}{v u:Value}{w:World}(hv:IM w v ls)(hu:DX w u cs)(hn:ls.length<=1000000000)(hs:∀l,l∈ls->l.length<=1000000000):
  Calls A1c 7 #[.agg #[.bool pl,v,u]] w (Ret w [] fun r L=>∃Av lv cv Au lu cu c,r= .agg #[.bool pl,.slice Av lv cv,.slice Au lu cu]/\L=[c]/\CertC c (.slice Av lv cv) (.slice Au lu cu) ls cs):=by
 have hcl:cs.length<=8796093021952:=by obtain⟨_,_,_,_,_,_,h⟩:=hu;exact h
 refine Calls.mono (Nw hv hu hn hs) ?_;rintro e w' ⟨r,L',rfl,⟨Av,lv,cv,Au,lu,cu,rs,rfl,hrs,rfl⟩,hO⟩;let ca:=Bf (.slice Au lu cu) 39 2 (Cj cs);refine⟨_,[pk (Bf (.slice Av lv cv) 37 1 (Ba rs)::ca::AT 3 rs)],J,⟨Av,lv,cv,Au,lu,cu,_,J,J,?_⟩,own_pk (by simpa using hO)⟩;intro w0 K w L i hw hi;have h1:=TB i hi hw;have hlen:rs.length=ls.length:=by rw[<-hrs];simp
 refine⟨?_,FG h1 1 J hcl⟩;have h2:=h1.sub (A1J _ _);have:=A1b (F:=[ca]) (by simpa using h2) (by omega) (fun p hp=>by
  have:=hs p.2 (by rw[<-hrs];exact List.mem_map_of_mem hp);omega);rw[hrs] at this;exact this
theorem I3{N:Int}{es:List Pr}{va:Value}{w:World}(hg:DX w va es):
  Calls A1c 6 #[.agg #[Iv N,va]] w (Ret w [] fun r L=>∃A c,r= .agg #[Iv N,.slice A es.length c]/\L=[Bf (.slice A es.length c) 39 2 (Cj es)]):=by
 have hl:es.length<=8796093021952:=by obtain⟨_,_,_,_,_,_,h⟩:=hg;exact h
 refine Calls.mono (Ph hg) ?_;rintro e w' ⟨r,L',rfl,⟨A,l,c,rfl,rfl⟩,hO⟩;obtain⟨A',c',he,_⟩:=FG hO 0 rfl hl;cases he;exact⟨_,_,J,⟨_,_,J,J⟩,hO⟩
end Go.Fl
namespace Go.Fl
open Classical
def De(f:Nat->Nat):Nat->Nat->Nat
 | 0,h=>h
 | k+1,h=>f (De f k h)
def Cc(f:Nat->Nat)(h:Nat):Prop:=∀k,h<=De f k h
noncomputable def HH(n:Nat)(f:Nat->Nat):Nat:=(List.range n).countP fun h=>decide (Cc f h)
structure Perm (n:Nat) (f:Nat->Nat):Prop where
 lt:∀i,i<n->f i<n
 inj:∀i j,i<n->j<n->f i=f j->i=j
def IK:List Nat->Nat
 | []=>0
 | x::r=>r.countP (fun y=>decide (y<x))+IK r
def cross(a b:List Nat):Nat:=(a.map fun x=>b.countP fun y=>decide (y<x)).sum
theorem Fx{n:Nat}{f:Nat->Nat}(h:Perm n f){i:Nat}(hi:i<n):∀k,De f k i<n
 | 0=>hi
 | k+1=>h.lt _ (Fx h hi k)
theorem H9(a b:List Nat):IK (a++b)=IK a+IK b+cross a b:=by
 induction a with
 | nil=>simp[IK,cross]
 | cons x r ih=>
  simp only[A1K,IK,ih,A2r,cross,A1M,A2l];omega
theorem Hq(a b:List Nat)(x:Nat):cross a (x::b)=cross a [x]+cross a b:=by
 induction a with
 | nil=>rfl
 | cons y r ih=>
  simp only[cross,A1M,A2l] at ih ⊢;rw[ih];simp only[A1Q,List.countP_nil];omega
theorem PX(a b c:List Nat):cross a (b++c)=cross a b+cross a c:=by
 induction b with
 | nil=>
  have:cross a []=0:=by
   unfold cross
   induction a with
   | nil=>rfl
   | cons y r ih=>simpa using ih
  rw[this];simp
 | cons x r ih=>rw[A1K,Hq,ih,Hq a r];omega
theorem MU{a:List Nat}{n:Nat}(h:∀x,x∈a->x<n):cross a [n]=0:=by
 induction a with
 | nil=>rfl
 | cons y r ih=>
  have h1:=h y (by simp);have h2:=ih fun x hx=>h x (by simp[hx]);simp only[cross,A1M,A2l,A1Q,List.countP_nil] at h2 ⊢;rw[h2,if_neg (by simp;omega)]
theorem Sm{l:List Nat}{q:Nat}(h:q∉l):l.countP (fun y=>decide (y<q))+l.countP (fun y=>decide (q<y))=l.length:=by
 induction l with
 | nil=>rfl
 | cons y r ih=>
  have h1:y≠q:=fun e=>h (by simp[e]);have:=ih fun hm=>h (by simp[hm]);simp only[A1Q,A2a];by_cases c:y<q
  .have:¬q<y:=by omega
   simp[c,this];omega
  have:q<y:=by omega
  simp[c,this];omega
theorem Uf{l:List Nat}{n:Nat}(h:∀x,x∈l->x<n):l.countP (fun y=>decide (y<n))=l.length:=by
 rw[List.countP_eq_length];intro a ha;simp[h a ha]
theorem WU(b:List Nat)(q:Nat):cross b [q]=b.countP fun y=>decide (q<y):=by
 induction b with
 | nil=>rfl
 | cons x r ih=>
  simp only[cross,A1M,A2l] at ih ⊢;rw[ih];simp only[A1Q,List.countP_nil];by_cases c:q<x<;>simp[c];omega
def EO(n p q:Nat)(f:Nat->Nat):Nat->Nat:=fun i=>if i=p then q else f i
theorem Sl{n p:Nat}{f:Nat->Nat}(h:Perm (n+1) f)(hp:p<n)(hfp:f p=n):Perm n (EO n p (f n) f):=by
 have hq:f n<n:=by
  have:=h.lt n (by omega);have:f n≠n:=fun e=>by have:=h.inj p n (by omega) (by omega) (by rw[hfp,e]);omega
  omega
 refine⟨fun i hi=>?_,fun i j hi hj he=>?_⟩
 .unfold EO;split
  .exact hq
  have:=h.lt i (by omega);have:f i≠n:=fun e=>by have:=h.inj i p (by omega) (by omega) (by rw[e,hfp]);omega
  omega
 unfold EO at he;split at he<;>split at he
 .omega
 .have:=h.inj n j (by omega) (by omega) he;omega
 .have:=h.inj i n (by omega) (by omega) he;omega
 exact h.inj i j (by omega) (by omega) he
theorem cut_itr{n p:Nat}{f:Nat->Nat}(h:Perm (n+1) f)(hp:p<n)(hfp:f p=n){i:Nat}(hi:i<n):
  (∀k,∃j,De (EO n p (f n) f) k i=De f j i)/\(∀k,(De f k i=n/\∃j,De (EO n p (f n) f) j i=p)\/∃j,De f k i=De (EO n p (f n) f) j i):=by
 have hc:=Sl h hp hfp;constructor
 .intro k
  induction k with
  | zero=>exact⟨0,rfl⟩
  | succ k ih=>
   obtain⟨j,hj⟩:=ih;by_cases c:De (EO n p (f n) f) k i=p
   .refine⟨j+2,?_⟩;show EO n p (f n) f (De (EO n p (f n) f) k i)=f (f (De f j i));rw[<-hj,c];unfold EO;rw[if_pos rfl,hfp]
   refine⟨j+1,?_⟩;show EO n p (f n) f (De (EO n p (f n) f) k i)=f (De f j i);rw[<-hj];unfold EO at c ⊢;rw[if_neg c]
 intro k
 induction k with
 | zero=>exact .inr ⟨0,rfl⟩
 | succ k ih=>
  rcases ih with⟨h1,j,hj⟩|⟨j,hj⟩
  .right;refine⟨j+1,?_⟩;show f (De f k i)=EO n p (f n) f (De (EO n p (f n) f) j i);rw[h1,hj];unfold EO;rw[if_pos rfl]
  have h4:De (EO n p (f n) f) j i<n:=Fx hc hi j;by_cases c:f (De f k i)=n
  .left;have h3:De f k i=p:=h.inj _ _ (by rw[hj];omega) (by omega) (by rw[c,hfp]);exact⟨c,j,by rw[<-hj,h3]⟩
  right;refine⟨j+1,?_⟩;show f (De f k i)=EO n p (f n) f (De (EO n p (f n) f) j i);rw[<-hj];unfold EO;rw[if_neg];intro e;apply c;rw[e,hfp]
theorem Zf{n p:Nat}{f:Nat->Nat}(h:Perm (n+1) f)(hp:p<n)(hfp:f p=n){i:Nat}(hi:i<n):Cc (EO n p (f n) f) i↔Cc f i:=by
 obtain⟨h1,h2⟩:=cut_itr h hp hfp hi;constructor
 .intro hl k;rcases h2 k with⟨e,_⟩|⟨j,hj⟩
  .omega
  rw[hj];exact hl j
 intro hl k;obtain⟨j,hj⟩:=h1 k;rw[hj];exact hl j
theorem RQ{n:Nat}{f g:Nat->Nat}(h:∀i,i<n->(Cc f i↔Cc g i)):HH n f=HH n g:=by
 unfold HH;apply List.countP_congr;intro x hx;have:=h x (A1r.1 hx);simp[this]
theorem MB(n:Nat)(f:Nat->Nat):HH (n+1) f=HH n f+if Cc f n then 1 else 0:=by
 unfold HH;rw[A2p,A2r];simp
theorem TH{n:Nat}{f:Nat->Nat}{l:List Nat}(h:Perm (n+1) f)(hl:∀i,i∈l->i<n+1)(p:Nat)(hp:p<n+1)(hfp:f p=n)(hn:p∉l):∀x,x∈l.map f->x<n:=by
 intro x hx;obtain⟨i,hi,rfl⟩:=A1G.1 hx;have h1:=h.lt i (hl i hi);have:f i≠n:=fun e=>hn (by have:=h.inj i p (hl i hi) hp (by rw[e,hfp]);rw[<-this];exact hi);omega
theorem Eh:∀{a b:List Nat},a.Nodup->(∀x,x∈a->x∈b)->a.length<=b.length
 | [],b,_,_=>by simp
 | x::r,b,hn,hs=>by
  rw[A1Z] at hn;have hx:x∈b:=hs x (by simp);have ih:=Eh (a:=r) (b:=b.erase x) hn.2 (fun y hy=>(List.mem_erase_of_ne (fun e=>hn.1 (by rw[<-e];exact hy))).2 (hs y (by simp[hy])));have:=List.length_erase_of_mem hx;have:0<b.length:=A3m hx;simp;omega
theorem Oa{n:Nat}{f:Nat->Nat}(h:Perm n f){y:Nat}(hy:y<n):∃x,x<n/\f x=y:=by
 apply Classical.byContradiction;intro hn;have hnd:((List.range n).map f).Nodup:=by
  unfold List.Nodup;rw[A2b];refine A2f.imp_of_mem fun{a b} ha hb hab he=>hab (h.inj a b (A1r.1 ha) (A1r.1 hb) he)
 have hsub:∀x,x∈(List.range n).map f->x∈(List.range n).filter fun z=>decide (z≠y):=by
  intro x hx;obtain⟨i,hi,rfl⟩:=A1G.1 hx;have hi':=A1r.1 hi;exact A1D.2 ⟨A1r.2 (h.lt i hi'),by simp;exact fun e=>hn ⟨i,hi',e⟩⟩
 have h1:=Eh hnd hsub;have h2:((List.range n).filter fun z=>decide (z≠y)).length<n:=by
  have h3:((List.range n).filter fun z=>decide (z≠y)).length+((List.range n).filter fun z=>decide (z=y)).length=n:=by
   have:∀l:List Nat,(l.filter fun z=>decide (z≠y)).length+(l.filter fun z=>decide (z=y)).length=l.length:=by
    intro l
    induction l with
    | nil=>rfl
    | cons a r ih=>
     by_cases c:a=y
     .simp[c] at ih ⊢;omega
     simp[c] at ih ⊢;omega
   have h5:=this (List.range n);rw[A2m] at h5;exact h5
  have h4:0<((List.range n).filter fun z=>decide (z=y)).length:=A3m (a:=y) (A1D.2 ⟨A1r.2 hy,by simp⟩);omega
 rw[A1S,A2m] at h1;omega
theorem LH{f:Nat->Nat}{n:Nat}(h:f n=n):∀k,De f k n=n
 | 0=>rfl
 | k+1=>by show f (De f k n)=n;rw[LH h k,h]
theorem Perm.cut{n:Nat}{f:Nat->Nat}(h:Perm (n+1) f)(hf:f n=n):Perm n f:=
 ⟨fun i hi=>by
  have h1:=h.lt i (by omega);have:f i≠n:=fun e=>by have:=h.inj i n (by omega) (by omega) (by rw[e,hf]);omega
  omega,fun i j hi hj he=>h.inj i j (by omega) (by omega) he⟩
theorem Hk:∀(n:Nat) (f:Nat->Nat),Perm n f->(IK ((List.range n).map f)+HH n f)%2=n%2
 | 0,f,_=>rfl
 | n+1,f,h=>by
  obtain⟨p,hp,hfp⟩:=Oa h (y:=n) (by omega);by_cases hpn:p=n
  .subst hpn;have ih:=Hk p f (h.cut hfp);have e1:(List.range (p+1)).map f=(List.range p).map f++[p]:=by rw[A2p,A1Y];simp[hfp]
   have hlp:Cc f p:=fun k=>by rw[LH hfp k];exact A1F _
   rw[e1,H9,MB,if_pos hlp];have e2:cross ((List.range p).map f) [p]=0:=MU (TH h (fun i hi=>by have:=A1r.1 hi;omega) p (by omega) hfp (by simp));have e3:IK [p]=0:=rfl;omega
  have hpl:p<n:=by omega
  have hc:=Sl h hpl hfp;have ih:=Hk n _ hc;have hl:HH n (EO n p (f n) f)=HH n f:=RQ fun i hi=>Zf h hpl hfp hi;have hnl:¬Cc f n:=fun hl=>by
   have:=hl 1;have h2:f n<n+1:=h.lt n (by omega);have:f n≠n:=fun e=>hpn (h.inj p n hp (by omega) (by rw[hfp,e]));have h3:n<=f n:=hl 1;omega
  rw[MB,if_neg hnl];rw[hl] at ih;obtain⟨m,hm⟩:∃m,n=p+1+m:=⟨n-(p+1),by omega⟩;generalize hA:(List.range p).map f=A;generalize hB:(List.range' (p+1) m).map f=B;have hr1:(List.range n)=List.range p++p::List.range' (p+1) m:=by
   rw[A3N,A3N,hm,show p+1+m=p+(1+m) by omega,<-List.range'_append_1,A2d,Nat.add_comm 1 m,A3O]
  have e1:(List.range (n+1)).map f=A++n::(B++[f n]):=by
   rw[A2p,hr1,A1Y,A1Y,A1M,hA,hB,hfp];simp
  have e2:(List.range n).map (EO n p (f n) f)=A++f n::B:=by
   rw[hr1,A1Y,A1M];have c1:(List.range p).map (EO n p (f n) f)=A:=by
    rw[<-hA];apply A2I;intro i hi;have:=A1r.1 hi;unfold EO;rw[if_neg (by omega)]
   have c2:(List.range' (p+1) m).map (EO n p (f n) f)=B:=by
    rw[<-hB];apply A2I;intro i hi;have:=List.mem_range'_1.1 hi;unfold EO;rw[if_neg (by omega)]
   rw[c1,c2]
   congr 2
   unfold EO;rw[if_pos rfl]
  rw[e2] at ih;rw[e1];have bA:∀x,x∈A->x<n:=by rw[<-hA];exact TH h (fun i hi=>by have:=A1r.1 hi;omega) p hp hfp (by simp)
  have bB:∀x,x∈B->x<n:=by rw[<-hB];exact TH h (fun i hi=>by have:=List.mem_range'_1.1 hi;omega) p hp hfp (fun hm3=>by have:=List.mem_range'_1.1 hm3;omega)
  have hq:f n<n:=by
   have:=h.lt n (by omega);have:f n≠n:=fun e=>hpn (h.inj p n hp (by omega) (by rw[hfp,e]));omega
  have hqB:f n∉B:=by
   rw[<-hB];intro hm2;obtain⟨i,hi,he⟩:=A1G.1 hm2;have hi2:=List.mem_range'_1.1 hi;have:=h.inj i n (by omega) (by omega) he;omega
  have k1:=Sm hqB;have k2:(B++[f n]).countP (fun y=>decide (y<n))=(B++[f n]).length:=Uf (by
   intro x hx;rcases A1C.1 hx with hx|hx
   .exact bB x hx
   simp at hx;omega);have k3:cross A (n::(B++[f n]))=cross A B+cross A [f n]:=by rw[Hq,PX,MU bA];omega
  have k4:cross A (f n::B)=cross A [f n]+cross A B:=Hq _ _ _;have k5:IK (B++[f n])=IK B+B.countP (fun y=>decide (f n<y)):=by
   rw[H9,WU];have:IK [f n]=0:=rfl;omega
  rw[H9] at ih ⊢;simp only[IK] at ih ⊢;rw[k2,k3,k5];rw[k4] at ih;simp only[A1V,List.length_singleton];omega
/-! ### neighbours change places in pairs -/
def A0k(T:Nat->Bool):Nat->List Nat->List Nat
 | i,x::y::r=>if T i then y::x::A0k T (i+1) r else x::y::A0k T (i+1) r
 | _,l=>l
theorem QL(T:Nat->Bool):∀(i:Nat) (l:List Nat),(A0k T i l).Perm l
 | i,x::y::r=>by
  unfold A0k;have ih:=QL T (i+1) r;split
  .exact(List.Perm.swap x y _).trans ((ih.cons y).cons x)
  exact(ih.cons y).cons x
 | _,[]=>.refl _
 | _,[_]=>.refl _
theorem RV(T:Nat->Bool):∀(m i:Nat) (l:List Nat),l.Nodup->l.length=2*m->(IK (A0k T i l)+(List.range' i m).countP T)%2=IK l%2
 | 0,i,l,_,hl=>by
  have:l=[]:=A1s (by omega);subst this;rfl
 | m+1,i,l,hn,hl=>by
  match l,hn,hl with
  | [],_,hl=>simp at hl
  | [_],_,hl=>simp at hl;omega
  | x::y::r,hn,hl=>
   rw[A1Z,A1Z] at hn;have ih:=RV T m (i+1) r hn.2.2 (by simp at hl;omega);have hp:=QL T (i+1) r;have hxy:x≠y:=fun e=>hn.1 (by simp[e]);have c1:∀z:Nat,(A0k T (i+1) r).countP (fun w=>decide (w<z))=r.countP (fun w=>decide (w<z)):=fun z=>hp.countP_eq _;unfold A0k;rw[A3O,A1Q];split
   .rename_i ht;simp only[IK,A1Q,c1,ht,if_true];by_cases c:x<y
    .have:¬y<x:=by omega
     simp[c,this];omega
    have:y<x:=by omega
    simp[c,this];omega
   rename_i ht;simp only[IK,A1Q,c1,ht];simp;omega
def twn(h:Nat):Nat:=if h%2=0 then h+1 else h-1
theorem UI(T:Nat->Bool)(s:Nat->Nat):∀(m i:Nat),A0k T i ((List.range' (2*i) (2*m)).map s)=(List.range' (2*i) (2*m)).map fun h=>s (if T (h / 2) then twn h else h)
 | 0,i=>rfl
 | m+1,i=>by
  have ih:=UI T s m (i+1);rw[show 2*(m+1)=2*m+1+1 by omega,A3O,A3O];simp only[A1M];unfold A0k;rw[show 2*i+1+1=2*(i+1) by omega,ih];have e1:2*i / 2=i:=by omega
  have e2:(2*i+1) / 2=i:=by omega
  have e3:twn (2*i)=2*i+1:=by unfold twn;rw[if_pos (by omega)]
  have e4:twn (2*i+1)=2*i:=by unfold twn;rw[if_neg (by omega)];omega
  rw[e1,e2,e3,e4];split<;>rfl
theorem Xz(m:Nat):Perm (2*m) twn:=
 ⟨fun i hi=>by unfold twn;split<;>omega,fun i j hi hj he=>by unfold twn at he;split at he<;>split at he<;>omega⟩
theorem Perm.nodup{n:Nat}{f:Nat->Nat}(h:Perm n f):((List.range n).map f).Nodup:=by
 unfold List.Nodup;rw[A2b];exact A2f.imp_of_mem fun{a b} ha hb hab he=>hab (h.inj a b (A1r.1 ha) (A1r.1 hb) he)
def Qp(c:Nat->Bool)(f:Nat->Nat):Nat->Nat:=fun h=>if c h then f h else h
theorem Mw{n:Nat}{f:Nat->Nat}{c:Nat->Bool}(h:Perm n f)(hc:∀i,i<n->c (f i)=c i):Perm n (Qp c f):=by
 refine⟨fun i hi=>?_,fun i j hi hj he=>?_⟩
 .unfold Qp;split
  .exact h.lt i hi
  exact hi
 unfold Qp at he;split at he<;>split at he
 .exact h.inj i j hi hj he
 .rename_i a b;have:=hc i hi;rw[he] at this;rw[this] at b;exact absurd a b
 .rename_i a b;have:=hc j hj;rw[<-he] at this;rw[this] at a;exact absurd b a
 exact he
theorem PB{n:Nat}{f:Nat->Nat}{c:Nat->Bool}(h:Perm n f)(hc:∀i,i<n->c (f i)=c i){i:Nat}(hi:i<n)(hci:c i=true):∀k,De (Qp c f) k i=De f k i/\c (De f k i)=true
 | 0=>⟨rfl,hci⟩
 | k+1=>by
  obtain⟨h1,h2⟩:=PB h hc hi hci k;have h3:Qp c f (De f k i)=f (De f k i):=by unfold Qp;rw[if_pos h2]
  exact⟨by show Qp c f (De (Qp c f) k i)=_;rw[h1,h3];rfl,by show c (f (De f k i))=true;rw[hc _ (Fx h hi k)];exact h2⟩
theorem Oi{n:Nat}{f:Nat->Nat}{c:Nat->Bool}(h:Perm n f)(hc:∀i,i<n->c (f i)=c i):
  HH n (Qp c f)=(List.range n).countP (fun i=>c i&&decide (Cc f i))+(List.range n).countP fun i=> !c i:=by
 unfold HH;have key:∀l:List Nat,(∀i,i∈l->i<n)->l.countP (fun i=>decide (Cc (Qp c f) i))=l.countP (fun i=>c i&&decide (Cc f i))+l.countP fun i=> !c i:=by
  intro l hl
  induction l with
  | nil=>rfl
  | cons i r ih=>
   have ih':=ih fun j hj=>hl j (by simp[hj]);have hi:=hl i (by simp);simp only[A1Q,ih'];by_cases hci:c i=true
   .have e:Cc (Qp c f) i↔Cc f i:=by
     unfold Cc;constructor
     .intro hh k;rw[<-(PB h hc hi hci k).1];exact hh k
     intro hh k;rw[(PB h hc hi hci k).1];exact hh k
    simp[hci,e];omega
   have e:Cc (Qp c f) i:=fun k=>by
    have:Qp c f i=i:=by unfold Qp;rw[if_neg hci]
    rw[LH this k];exact A1F _
   simp[hci,e];omega
 exact key _ fun i hi=>A1r.1 hi
theorem Sc{m:Nat}{s:Nat->Nat}{c:Nat->Bool}(hs:Perm (2*m) s)(h1:∀i,i<2*m->c (s i)=c i)(h2:∀i,i<2*m->c (twn i)=c i):
  ((List.range (2*m)).countP (fun i=>c i&&decide (Cc (fun h=>s (twn h)) i))+(List.range (2*m)).countP (fun i=>c i&&decide (Cc s i))+(List.range m).countP fun e=>c (2*e))%2=0:=by
 have ht:=Xz m;have hf:Perm (2*m) fun h=>s (twn h):=⟨fun i hi=>hs.lt _ (ht.lt i hi),fun i j hi hj he=>ht.inj i j hi hj (hs.inj _ _ (ht.lt i hi) (ht.lt j hj) he)⟩;have hfc:∀i,i<2*m->c (s (twn i))=c i:=fun i hi=>by rw[h1 _ (ht.lt i hi),h2 i hi]
 have a1:=Hk _ _ (Mw hs h1);have a2:=Hk _ _ (Mw hf hfc);rw[Oi hs h1] at a1;rw[Oi hf hfc] at a2;have e1:(List.range (2*m)).map (Qp c fun h=>s (twn h))=A0k (fun e=>c (2*e)) 0 ((List.range (2*m)).map (Qp c s)):=by
  have:=UI (fun e=>c (2*e)) (Qp c s) m 0;rw[Nat.mul_zero,<-A3N] at this;rw[this];apply A2I;intro h hh;have hlt:=A1r.1 hh;have h3:c (2*(h / 2))=c h:=by
   by_cases hp:h%2=0
   .rw[show 2*(h / 2)=h by omega]
   have e:twn h=2*(h / 2):=by unfold twn;rw[if_neg hp];omega
   rw[<-e];exact h2 h hlt
  rw[h3];unfold Qp;by_cases hc:c h=true
  .rw[if_pos hc,if_pos hc,if_pos (by rw[h2 h hlt];exact hc)]
  rw[if_neg hc,if_neg hc,if_neg hc]
 have a3:=RV (fun e=>c (2*e)) m 0 _ (Mw hs h1).nodup (by simp);rw[<-e1,<-A3N] at a3;omega
end Go.Fl
namespace Go.Fl
open Classical
theorem E9(f:Nat->Nat)(x:Nat):∀a b,De f (a+b) x=De f a (De f b x)
 | 0,b=>by rw[A2d];rfl
 | a+1,b=>by rw[Nat.succ_add];show f _=f _;rw[E9 f x a b]
theorem Vd{n:Nat}{f:Nat->Nat}(h:Perm n f){x y:Nat}(hx:x<n)(hy:y<n):∀k,De f k x=De f k y->x=y
 | 0,e=>e
 | k+1,e=>Vd h hx hy k (h.inj _ _ (Fx h hx k) (Fx h hy k) e)
theorem itr_ret{n:Nat}{f:Nat->Nat}(h:Perm n f){x:Nat}(hx:x<n):∃k,0<k/\De f k x=x:=by
 apply Classical.byContradiction;intro hno;have hnd:((List.range (n+1)).map fun k=>De f k x).Nodup:=by
  unfold List.Nodup;rw[A2b,A2t];intro i j hi hj hij e;simp only[List.getElem_range] at e;have e2:De f i (De f (j-i) x)=De f i x:=by rw[<-E9,show i+(j-i)=j by omega];exact e.symm
  exact hno ⟨j-i,by omega,Vd h (Fx h hx _) hx i e2⟩
 have:=Eh (b:=List.range n) hnd (fun y hy=>by
  obtain⟨k,_,rfl⟩:=A1G.1 hy;exact A1r.2 (Fx h hx k));rw[A1S,A2m,A2m] at this;omega
theorem F4{n:Nat}{f:Nat->Nat}(h:Perm n f){x y:Nat}{q:Nat}(hx:x<n)(e:De f q x=y):∃r,De f r y=x:=by
 obtain⟨k,hk,hr⟩:=itr_ret h hx;have hm:∀m,De f (k*m) x=x:=by
  intro m
  induction m with
  | zero=>rfl
  | succ m ih=>rw[Nat.mul_succ,E9,hr,ih]
 have hq:q<=k*q:=Nat.le_mul_of_pos_left _ hk;refine⟨k*q-q,?_⟩;rw[<-e,<-E9,show k*q-q+q=k*q by omega,hm]
def Ij(f:Nat->Nat)(h x:Nat):Prop:=∃j q,j<h/\De f q j=x
theorem NZ{n:Nat}{f:Nat->Nat}(h:Perm n f){x:Nat}(hx:x<n):Ij f x x↔¬Cc f x:=by
 constructor
 .rintro⟨j,q,hj,e⟩ hl;obtain⟨r,hr⟩:=F4 h (by omega) e;have:=hl r;omega
 intro hl;simp only[Cc,Classical.not_forall,Nat.not_le] at hl;obtain⟨k,hk⟩:=hl;obtain⟨r,hr⟩:=F4 h hx rfl (q:=k);exact⟨_,r,hk,hr⟩
theorem VQ{n:Nat}{f:Nat->Nat}(h:Perm n f){x t:Nat}(hx:x<n)(ht:0<t)(hns:¬Ij f x x)(hs:Ij f x (De f t x)\/∃i,i<t/\De f i x=De f t x):
  ∀q,∃i,i<t/\De f i x=De f q x:=by
 have hcl:∃i,i<t/\De f i x=De f t x:=by
  rcases hs with⟨j,q,hj,e⟩|hs
  .exfalso;obtain⟨r,hr⟩:=F4 h hx rfl (q:=t);exact hns ⟨j,r+q,hj,by rw[E9,e,hr]⟩
  exact hs
 intro q
 induction q with
 | zero=>exact⟨0,ht,rfl⟩
 | succ q ih=>
  obtain⟨i,hi,e⟩:=ih;have e2:De f (i+1) x=De f (q+1) x:=by show f _=f _;rw[e]
  by_cases h1:i+1<t
  .exact⟨i+1,h1,e2⟩
  obtain⟨i',hi',e'⟩:=hcl;exact⟨i',hi',by rw[e',show t=i+1 by omega,e2]⟩
theorem Ns{f:Nat->Nat}{x t:Nat}(hall:∀q,∃i,i<t/\De f i x=De f q x)(y:Nat):Ij f (x+1) y↔Ij f x y\/∃i,i<t/\De f i x=y:=by
 constructor
 .rintro⟨j,q,hj,e⟩;rcases A1i.1 hj with hj|rfl
  .exact .inl ⟨j,q,hj,e⟩
  obtain⟨i,hi,e2⟩:=hall q;exact .inr ⟨i,hi,e2.trans e⟩
 rintro(⟨j,q,hj,e⟩|⟨i,hi,e⟩)
 .exact⟨j,q,by omega,e⟩
 exact⟨x,i,by omega,e⟩
theorem Nr{f:Nat->Nat}{x:Nat}(hs:Ij f x x)(y:Nat):Ij f (x+1) y↔Ij f x y:=by
 constructor
 .rintro⟨j,q,hj,e⟩;rcases A1i.1 hj with hj|rfl
  .exact⟨j,q,hj,e⟩
  obtain⟨j',q',hj',e'⟩:=hs;exact⟨j',q+q',hj',by rw[E9,e',e]⟩
 rintro⟨j,q,hj,e⟩;exact⟨j,q,by omega,e⟩
end Go.Fl
namespace Go.Fl
open Go Go.Proofs
section
open Classical
def CM(f:Nat->Int)(h:Nat):Nat:=(f (twn h)).toNat
structure FaI where
 h:Nat
 g:Nat->Bool
 fs:RL
 v:Value
structure FaJ where
 t:Nat
 g:Nat->Bool
 v:Value
structure FaD (n:Nat) (f:Nat->Int) (j:FaI):Prop where
 le:j.h<=n
 seen:∀x,x<n->(j.g x=true↔Ij (CM f) j.h x)
 heads:j.fs.map (fun p=>p.2.head?)=((List.range j.h).filter fun x=>decide (Cc (CM f) x)).map fun(x:Nat)=>some (x:Int)
 short:∀p,p∈j.fs->p.2.length<=n
structure FaW (n:Nat) (f:Nat->Int) (h:Nat) (g0:Nat->Bool) (j:FaJ):Prop where
 nd:((List.range j.t).map fun i=>De (CM f) i h).Nodup
 seen:∀x,x<n->(j.g x=true↔g0 x=true\/∃i,i<j.t/\De (CM f) i h=x)
 new:0<j.t->¬(g0 h=true)
def F6(f:Nat->Int)(h t:Nat):List Int:=(List.range t).map fun i=>((De (CM f) i h:Nat):Int)
theorem Xb{N:Int}{es:List Pr}{rs:List (List Int)}{va v:Value}{w:World}(hg:DX w va es)(hl:IM w v rs)
 (hperm:∀f,CO N es rs->Dj rs rs.length f->Perm (es.length*2) (CM f)/\∀h,h<es.length*2->0<=f h):
  Calls A1c 112 #[.agg #[Iv N,va],v] w (Ret w [] fun r M=>
   (CO N es rs/\∃v fs f,r= .tuple #[v,Iv 0]/\Dj rs rs.length f/\FaD (es.length*2) f ⟨es.length*2,fun _=>true,fs,v⟩/\M=Bf v 37 1 (Ba fs)::AT 3 fs)\/
   (¬CO N es rs/\M=[]/\∃e,r= .tuple #[Nv,Iv e]/\e≠0)):=by
 refine cO Tryz.func112 Tryz.ntmps112<|Zs ?_;refine Zw (HE (cs:=#[Iv N,va]) J J J) fun g2=>?_;refine Zz [2]<|Zx<|Zs ?_;refine CR [_,_] ?_;refine Zm ?_;refine Bk J J (AH en145 J J J (fun w' hw=>Uu (hg.keep0 hw) (hl.keep0 hw))) ?_;intro v16 L16 hC16;obtain⟨sv,e,rfl,hD16⟩:∃sv e,v16= .tuple #[sv,Iv e]/\((e=0/\CO N es rs/\∃g f,sv= .slice (So g) (es.length*2) (es.length*2)/\Dj rs rs.length f/\L16=[AC g 3 (AA (BA (es.length*2) f)).toArray])\/(¬CO N es rs/\e≠0)):=by
  rcases hC16 with⟨hok,g,f,rfl,h1,h2⟩|⟨hno,_,e,rfl,hne⟩
  .exact⟨_,_,J,.inl ⟨J,hok,g,f,J,h1,h2⟩⟩
  exact⟨_,_,J,.inr ⟨hno,hne⟩⟩
 clear hC16;refine Zz [5]<|Zx<|Ai<|Zs ?_;refine Zz [2]<|Zx ?_;refine Zd ?_ ?_<;>intro c2
 .refine Zs<|Zz [3]<|Zx<|At<|Ad ?_;have hne:e≠0:=by simpa using c2
  have hno:=(hD16.resolve_left (fun h=>hne h.1)).1;refine Lm 4 5 ?_;refine Bq (.inl J) J J J ?_;exact .inr ⟨hno,J,e,J,hne⟩
 refine Ao<|Aa<|Ai ?_;have he0:e=0:=by simpa using c2
 obtain⟨_,hok,gn,f,rfl,hnx,rfl⟩:=hD16.resolve_right (fun h=>h.2 he0);simp only[zs];obtain⟨hP,hf0⟩:=hperm f hok hnx;have hfew:=hok.1.few;obtain⟨n,hn⟩:∃n,n=es.length*2:=⟨_,rfl⟩;rw[<-hn] at hP hf0 ⊢;have hn1:n<=8388608:=by omega
 refine Ak<|Zz [2] ?_;refine Zw (B6 (k:=n) J J J Tryz.underlying183 sz4 by4 ze4 J (by omega) (by omega) (JL _)) fun g24=>?_;refine Za<|Zx<|Zs ?_;refine Za<|Zx<|Ai<|Zs ?_;refine Zz [3]<|Zx<|As ?_;refine DC.own (fun w hw=>Ck (t:=37) (m:=1) hw) ?_;refine AS (ι:=FaI) (fun j=>FaD n f j)
  (fun j=>[(6,Sv gn n),(8,Sv g24 n),(9,j.v),(25,Sv gn n),(26,Iv n),(27,Iv j.h)])
  (fun j=>Bf j.v 37 1 (Ba j.fs)::AC g24 4 (IV n j.g).toArray::AC gn 3 (AA (BA n f)).toArray::AT 3 j.fs) (fun j=>n-j.h) ⟨0,fun _=>false,[],Nv⟩
  ⟨A1E _,fun x _=>⟨fun h=>by simp at h,fun⟨j,q,h,_⟩=>absurd h (A1w _)⟩,by simp,by simp⟩ ⟨rfl,rfl,rfl,rfl,rfl,rfl,trivial⟩ (Bg (Bg (Bg .nil))) ?_;rintro⟨h,g,fs,v9⟩ hD;have hDle:=hD.le;have hDse:=hD.seen;dsimp only at hDle hDse ⊢;refine Zs<|Zc<|Zx<|Ai ?_;refine Zd ?_ ?_<;>intro c7
 .have hlt:h<n:=by simpa using c7
  refine Ao<|Aa<|Ai<|As<|Zs<|Zz [2]<|Zx<|Zs ?_;refine Za<|Zx<|Ai<|Zs ?_;refine Zz [2]<|Zx<|As ?_;refine DC.own (fun w hw=>Ck (t:=3) (m:=1) hw) ?_;refine AS (ι:=FaJ) (fun j=>FaW n f h g j)
   (fun j=>[(6,Sv gn n),(8,Sv g24 n),(9,v9),(11,j.v),(12,Iv (De (CM f) j.t h:Nat)),(25,Sv gn n),(26,Iv n),(27,Iv h)])
   (fun j=>Bf j.v 3 1 (AA (F6 f h j.t))::Bf v9 37 1 (Ba fs)::AC g24 4 (IV n j.g).toArray::AC gn 3 (AA (BA n f)).toArray::AT 3 fs) (fun j=>n-j.t) ⟨0,g,Nv⟩
   ⟨by simp,fun x hx=>by simp,fun h=>absurd h (Nat.lt_irrefl _)⟩ ⟨rfl,rfl,rfl,rfl,rfl,rfl,rfl,rfl,trivial⟩ (Ay _) ?_;rintro⟨t,g',v11⟩ hW;have hWse:=hW.seen;have hk:=Fx hP hlt t;dsimp only at hWse ⊢;have htn:t<=n:=by
   have:=Eh (b:=List.range n) hW.nd (fun y hy=>by obtain⟨q,_,rfl⟩:=A1G.1 hy;exact A1r.2 (Fx hP hlt q));simpa using this
  obtain⟨k,hkk⟩:∃k,k=De (CM f) t h:=⟨_,rfl⟩;rw[<-hkk] at hk ⊢;have htw:twn k<n:=by unfold twn;split<;>omega
  have hval:(AA (BA n f)).toArray[twn k]? =some (Iv ((CM f k:Nat):Int)):=by
   rw[BB htw];congr 2;exact(A3B (hf0 _ htw)).symm
  have exor:(if(k:Int)%2=0 then(k:Int)+1 else(k:Int)-1)=((twn k:Nat):Int):=by unfold twn;split<;>split<;>omega
  refine Ai<|Zs<|Zz [3] ?_;refine Zu (AG J J Um (AK (LP g' hk))) ?_;refine Zz [1]<|Zx ?_;refine Zd ?_ ?_<;>intro c11
  .have hgk:¬(g' k=true):=by simpa using c11
   have hkn:¬∃i,i<t/\De (CM f) i h=k:=fun h1=>hgk ((hWse k hk).2 (.inr h1));have hnd1:((List.range (t+1)).map fun i=>De (CM f) i h).Nodup:=by
    rw[A2p,A1Y,A1I];refine⟨hW.nd,by simp,fun a ha b hb e=>?_⟩;simp at hb;subst hb;subst e;obtain⟨q,hq,e⟩:=A1G.1 ha;exact hkn ⟨q,A1r.1 hq,by rw[hkk];exact e⟩
   have htn1:t+1<=n:=by
    have:=Eh (b:=List.range n) hnd1 (fun y hy=>by obtain⟨q,_,rfl⟩:=A1G.1 hy;exact A1r.2 (Fx hP hlt q));simpa using this
   refine Ao<|Aa<|Ai<|As<|Zs<|Zz [3] ?_;refine Zy (AP (cs':=(IV n (Ki g' k true)).toArray) J J J sz4 J (by simp;omega) (LO g' true))<|Zx<|Ak ?_;refine Zz [2] ?_;refine ZL #[_] A1x Bw C6 fun g46=>?_;refine AU J J (Bt J J J A1x Bw Fz C6 J (by decide) (by decide) (fun w hw=>hw.sub (A1k ..)) (.inl ⟨_,_,J,AW J⟩) J (CL [(k:Int)] []) (by simp[F6];omega)) ?_;rintro v47 _ rfl;refine Za<|Az<|An<|Aa<|Ak ?_;refine Zz [2] ?_;refine Zo (Pq J J J (by omega)) ?_;rw[exor];refine Zi (ad':=⟨gn,twn k,none⟩) A1x Bw ?_ (he:=by rw[AX];rfl);refine Zu (AG J J CA (AK hval)) ?_;refine Za<|Az ?_;refine AB ⟨t+1,Ki g' k true,v47⟩ (by dsimp only;omega) ⟨hnd1,?_,?_⟩ ⟨J,J,J,J,by rw[hkk];rfl,J,J,J,trivial⟩ (.cons' 0 J (by dsimp only;unfold F6;rw[A2p,A1Y,BW,hkk];rfl) (Ay _))
   .intro x hx;dsimp only;unfold Ki;split
    .rename_i e;subst e;simp only[true_iff];exact .inr ⟨t,by omega,hkk.symm⟩
    rename_i e;rw[hWse x hx];constructor
    .rintro(h1|⟨i,hi,h1⟩)
     .exact .inl h1
     exact .inr ⟨i,by omega,h1⟩
    rintro(h1|⟨i,hi,h1⟩)
    .exact .inl h1
    rcases A1i.1 hi with hi|rfl
    .exact .inr ⟨i,hi,h1⟩
    exact absurd (by rw[hkk,h1]) (Ne.symm e)
   intro _ hgh;by_cases h0:0<t
   .exact hW.new h0 hgh
   have:k=h:=by rw[hkk,show t=0 by omega];rfl
   exact hgk ((hWse k hk).2 (.inl (by rw[this];exact hgh)))
  refine AN<|Ag<|Ag<|Aq<|Aa<|Ai ?_;have hgk:g' k=true:=by simpa using c11
  refine DC.slcs (i:=0) J (by simp[F6];omega) ?_;rintro A11 c11' rfl _;have hfl:(F6 f h t).length=t:=by simp[F6]
  rw[hfl];refine Ak<|Zz [3]<|Zx ?_;refine Zd ?_ ?_<;>intro c15
  .have ht0:0<t:=by simp at c15;omega
   have hns:¬Ij (CM f) h h:=fun h1=>hW.new ht0 ((hDse h hlt).2 h1);have hlead:Cc (CM f) h:=by
    apply Classical.byContradiction;intro h1;exact hns ((NZ hP hlt).2 h1)
   have hall:=VQ hP hlt ht0 hns (by
    rw[<-hkk];rcases(hWse k hk).1 hgk with h1|h1
    .exact .inl ((hDse k hk).1 h1)
    exact .inr h1);have hfslen:fs.length<=h:=by
    have h1:=congrArg List.length hD.heads;simp only[A1S] at h1;have h2:=A2J (fun x=>decide (Cc (CM f) x)) (List.range h);simp at h2;omega
   refine Ak<|Zz [2] ?_;refine ZL #[_] A1B ET Gq fun g53=>?_;refine AU J J (Bt J J J A1B ET Sx Gq J (by decide) (by decide) (news:=[.slice A11 t c11']) (k:=1) (fun w hw=>(hw.sub (A1k ..)).perm (.swap _ _ _)) (.inl ⟨_,_,J,AW J⟩) J (fun u hu=>by rw[A2F.1 hu];rfl) (by simp;omega)) ?_;rintro v54 _ rfl;refine Za<|Az<|An<|Aa<|Ak ?_;refine Zz [2]<|Az ?_;refine Dl.own (M:=Bf v54 37 1 (Ba (fs++[(.slice A11 t c11',F6 f h t)]))::AC g24 4 (IV n g').toArray::AC gn 3 (AA (BA n f)).toArray::AT 3 (fs++[(.slice A11 t c11',F6 f h t)])) (fun w hw=>?_) ?_
   .have e1:Ba (fs++[(.slice A11 t c11',F6 f h t)])=Ba fs++[.slice A11 t c11']:=by simp[Ba]
    have e2:AT 3 (fs++[(.slice A11 t c11',F6 f h t)])=AT 3 fs++[Bf (.slice A11 t c11') 3 1 (AA (F6 f h t))]:=by simp[AT]
    rw[e1,e2];refine hw.perm ?_;refine List.Perm.cons _ ?_;have:=A1v (l₁:=AC g24 4 (IV n g').toArray::AC gn 3 (AA (BA n f)).toArray::AT 3 fs) (l₂:=[Bf (.slice A11 t c11') 3 1 (AA (F6 f h t))]);simpa using this
   refine AB ⟨h+1,g',fs++[(.slice A11 t c11',F6 f h t)],v54⟩ (by dsimp only;omega) ⟨by dsimp only;omega,?_,?_,?_⟩ ⟨J,J,J,J,J,J,trivial⟩ (Ay _)
   .intro x hx;dsimp only;rw[hWse x hx,hDse x hx,Ns hall]
   .dsimp only;rw[A2p,A2U,A1Y,A1Y,hD.heads]
    congr 1
    have:(F6 f h t).head? =some (h:Int):=by
     obtain⟨t',rfl⟩:∃t',t=t'+1:=⟨t-1,by omega⟩;simp[F6,List.range_succ_eq_map,De]
    simp[hlead,this]
   intro p hp;rw[A1C] at hp;rcases hp with hp|hp
   .exact hD.short p hp
   simp at hp;subst hp;dsimp only;omega
  refine Ao<|An<|Aa<|Ak<|Zz [2]<|Az ?_;have ht0:t=0:=by simp at c15;omega
  subst ht0;have hkh:k=h:=hkk;subst hkh;have hgx:∀x,x<n->(g' x=true↔g x=true):=fun x hx=>by rw[hWse x hx];simp
  have hs:Ij (CM f) k k:=(hDse k hlt).1 ((hgx k hlt).1 hgk);have hnl:¬Cc (CM f) k:=(NZ hP hlt).1 hs;refine Dl.own (fun w hw=>hw.sub (A1k ..)) ?_;refine AB ⟨k+1,g',fs,v9⟩ (by dsimp only;omega) ⟨by dsimp only;omega,?_,?_,hD.short⟩ ⟨J,J,J,J,J,J,trivial⟩ (Ay _)
  .intro x hx;dsimp only;rw[hgx x hx,hDse x hx,Nr hs]
  dsimp only;rw[A2p,A2U,A1Y,hD.heads];simp[hnl]
 refine AN<|Ag<|Ag<|Aq<|Aa<|Zs<|Zz [3]<|Zx<|At ?_;have hhn:h=n:=by simp at c7;omega
 subst hhn;refine Dl.own (M:=Bf v9 37 1 (Ba fs)::AT 3 fs) (fun w hw=>hw.sub (.cons_cons _ (.cons _ (.cons _ (List.Sublist.refl _))))) ?_;refine Bq (.inl J) J J J ?_;refine .inl ⟨hok,v9,fs,f,J,hnx,?_,J⟩;exact⟨A1F _,fun x hx=>⟨fun _=>⟨x,0,hx,J⟩,fun _=>rfl⟩,hD.heads,hD.short⟩
end
theorem Kx:∀{a b:List Int},a.Nodup->(∀x,x∈a->x∈b)->a.length<=b.length
 | [],b,_,_=>by simp
 | x::r,b,hn,hs=>by
  rw[A1Z] at hn;have hx:x∈b:=hs x (by simp);have ih:=Kx (a:=r) (b:=b.erase x) hn.2 (fun y hy=>(List.mem_erase_of_ne (fun e=>hn.1 (by rw[<-e];exact hy))).2 (hs y (by simp[hy])));have:=List.length_erase_of_mem hx;have:0<b.length:=A3m hx;simp;omega
theorem A1a{i j n:Nat}(hi:i<n)(hj:j<n)(h:(i+1)%n=(j+1)%n):i=j:=by
 have e:∀k,k<n->(k+1)%n=if k+1=n then 0 else k+1:=by
  intro k hk;split
  .rename_i h1;rw[h1,Nat.mod_self]
  exact A2y (by omega)
 rw[e i hi,e j hj] at h;split at h<;>split at h<;>omega
theorem G6{N:Int}{es:List Pr}{rs:List (List Int)}(hok:CO N es rs){h:Nat}(hh:h<es.length*2):
  ∃(v:Nat) (l:List Int) (i:Nat),rs[v]? =some l/\l[i]? =some (h:Int)/\Aj es h=v:=by
 obtain⟨hV,hN,hrow⟩:=hok;obtain⟨e,a,he,hcase⟩:=Cq (es:=es) (h:=(h:Int)) (by omega) (by omega);have ho:=hV.ok e a he;have h1:=ho.lo;have h2:=ho.lt;have h3:=ho.hi;have hb:0<=Aj es h/\Aj es h<N:=by
  rcases hcase with⟨_,h4,_⟩|⟨_,h4,_⟩<;>rw[h4]<;>omega
 obtain⟨v,hv⟩:=A1n hb.1;obtain⟨l,hl⟩:∃l,rs[v]? =some l:=⟨_,A1d (by omega)⟩;obtain⟨hfr,hnd,hcnt⟩:=hrow v l hl;have hmem:(h:Int)∈l:=by
  apply Classical.byContradiction;intro hno;have hle:=Kx (a:=(h:Int)::l) (b:=Bs es v) (A1Z.2 ⟨hno,hnd⟩) (fun x hx=>by
   rcases A1H.1 hx with rfl|hx
   .exact(Bb hV).2 ⟨by omega,by omega,hv⟩
   exact(Bb hV).2 (hfr x hx));unfold Fr at hcnt;simp only[A2a] at hle;omega
 obtain⟨i,hi⟩:=A1j.1 hmem;exact⟨v,l,i,hl,hi,hv⟩
theorem Iu{N:Int}{es:List Pr}{rs:List (List Int)}{f:Nat->Int}(hok:CO N es rs)(hnx:Dj rs rs.length f):Perm (es.length*2) (CM f)/\∀h,h<es.length*2->0<=f h:=by
 have hrow:=hok.2.2;have next:∀{v:Nat} {l:List Int} {i h:Nat},rs[v]? =some l->l[i]? =some (h:Int)->l[(i+1)%l.length]? =some (f h)/\0<=f h/\f h<es.length*2/\Aj es (f h)=v:=by
  intro v l i h hl hi;have h1:=hnx v l i h (A1e.1 hl).1 hl hi;rw[A1g] at h1;obtain⟨h2,h3,h4⟩:=(hrow v l hl).1 _ (A1h h1);exact⟨h1,h2,h3,h4⟩
 have hf0:∀h,h<es.length*2->0<=f h:=fun h hh=>by
  obtain⟨v,l,i,hl,hi,_⟩:=G6 hok hh;exact(next hl hi).2.1
 have htw:∀h,h<es.length*2->twn h<es.length*2:=fun h hh=>by unfold twn;split<;>omega
 have htinj:∀a b,twn a=twn b->a=b:=fun a b e=>by unfold twn at e;split at e<;>split at e<;>omega
 refine⟨⟨fun h hh=>?_,fun a b ha hb e=>?_⟩,hf0⟩
 .obtain⟨v,l,i,hl,hi,_⟩:=G6 hok (htw h hh);have:=next hl hi
  unfold CM;omega
 obtain⟨v,l,i,hl,hi,hv⟩:=G6 hok (htw a ha);obtain⟨v',l',i',hl',hi',hv'⟩:=G6 hok (htw b hb);obtain⟨n1,n2,n3,n4⟩:=next hl hi
 obtain⟨m1,m2,m3,m4⟩:=next hl' hi'
 have hff:f (twn a)=f (twn b):=by unfold CM at e;omega
 have hvv:v=v':=by rw[hff] at n4;omega
 subst hvv;rw[hl] at hl';cases hl';have hnd:=(hrow v l hl).2.1;have hil:=(A1e.1 hi).1;have hil':=(A1e.1 hi').1;have hmm:=(A3x (A3y _ (by omega)) hnd).1 (n1.trans ((congrArg some hff).trans m1.symm));have hii:=A1a hil hil' hmm;subst hii;rw[hi] at hi';have:twn a=twn b:=by have:=Option.some.inj hi';omega
 exact htinj a b this
end Go.Fl
