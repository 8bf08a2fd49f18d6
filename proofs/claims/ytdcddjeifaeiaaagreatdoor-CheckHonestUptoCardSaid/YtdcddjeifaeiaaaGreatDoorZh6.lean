/- The last part: The law CheckHonest, where what it reads is of bulk at most 1048576: true, and the input reads as it did; the three tables of the library and the empty interval that it lists are tied to the text of the program. -/
import Derived.Test.YtdcddjeifaeiaaaGreatDoorZh5
set_option linter.unusedVariables false
set_option linter.unusedSimpArgs false
set_option linter.unusedSectionVars false
set_option maxRecDepth 100000
namespace Go.Fl
open Go Go.Proofs
section
open Classical
/-! ### parities -/
def xr(C:Int->Bool):List Int->Bool
 | []=>false
 | h::l=>C (h / 2) !=xr C l
section
variable{C:Int->Bool}
theorem CS:∀l l':List Int,xr C (l++l')=(xr C l !=xr C l')
 | [],l'=>by simp[xr]
 | h::l,l'=>by rw[A1K,xr,xr,CS l l'];simp
theorem HQ:∀l:List Int,xr C l.reverse=xr C l
 | []=>rfl
 | h::l=>by rw[List.reverse_cons,CS,HQ l];simp[xr];exact Bool.xor_comm _ _
theorem Kj(k:Int):tw k / 2=k / 2:=by unfold tw;split<;>omega
theorem KS:∀l:List Int,xr C (l.map tw)=xr C l
 | []=>rfl
 | h::l=>by rw[A1M,xr,xr,KS l,Kj]
theorem OR{f g:Int->List Int}:∀{l:List Int},(∀h,h∈l->xr C (f h)=xr C (g h))->xr C (l.flatMap f)=xr C (l.flatMap g)
 | [],_=>rfl
 | h::l,hh=>by rw[A2K,A2K,CS,CS,hh h (by simp),OR fun x hx=>hh x (by simp[hx])]
theorem Xq:∀l:List Int,xr C l=decide ((l.countP fun h=>C (h / 2))%2=1)
 | []=>rfl
 | h::l=>by
  rw[xr,Xq l,A1Q];cases C (h / 2) with
  | false=>simp
  | true=>
   rcases Nat.mod_two_eq_zero_or_one (l.countP fun h=>C (h / 2)) with e|e
   .simp[e,show(l.countP (fun h=>C (h / 2))+1)%2=1 by omega]
   simp[e,show(l.countP (fun h=>C (h / 2))+1)%2=0 by omega]
end
noncomputable def Xl(l:List Int)(h:Int):List Int:=l.takeWhile fun x=>decide (x≠h)
theorem F8{h:Int}{l2:List Int}:∀{l1:List Int},h∉l1->Xl (l1++h::l2) h=l1
 | [],_=>by simp[Xl]
 | x::l1,hn=>by
  have h1:x≠h:=fun e=>hn (by simp[e]);have:=F8 (h:=h) (l2:=l2) (l1:=l1) fun hm=>hn (by simp[hm]);unfold Xl at this ⊢;rw[A1K,List.takeWhile_cons,if_pos (by simpa using h1),this]
theorem G4{f:Int->Int}{x:Int}:∀{l:List Int},l.Pairwise (fun a b=>f a<=f b)->l.filter (fun b=>decide (f b<x))++l.filter (fun b=>decide (x<=f b))=l
 | [],_=>rfl
 | a::l,h=>by
  rw[A2C] at h;have ih:=G4 (x:=x) h.2;by_cases c:f a<x
  .rw[A3p (by simpa using c),List.filter_cons_of_neg (by simp;omega),A1K,ih]
  have e1:l.filter (fun b=>decide (f b<x))=[]:=List.filter_eq_nil_iff.2 fun b hb=>by have:=h.1 b hb;simp;omega
  rw[e1] at ih;rw[List.filter_cons_of_neg (by simpa using c),A3p (by simp;omega),e1,A1N];rw[A1N] at ih;rw[ih]
section
variable(es:List Pr)(pa he oi lm kp:Int->Int)(H:Nat)
noncomputable def Mu(v:Int):List Int:=((Bs es v).filter fun h=>decide (DS es oi h)).mergeSort fun h k=>decide (kp h<=kp k)
noncomputable def KA(v:Int)(l:List Int):List Int:=l.filter fun b=>decide (-(he v)<=lm b/\lm b<he v)
noncomputable def Gr(v:Int)(l:List Int):List Int:=l.filter fun b=>decide (lm b< -(he v))
noncomputable def JD(v:Int)(l:List Int):List Int:=l.filter fun b=>decide (he v<=lm b)
noncomputable def opnF:Nat->Int->List Int
 | 0,_=>[]
 | f+1,v=>(Mu es oi kp v).flatMap fun h=>if pa (AD es h)=h then KA he lm v (opnF f (AD es h)) else[h]
noncomputable def E8(v:Int):List Int:=opnF es pa he oi lm kp (H-(he v).toNat) v
noncomputable def FF(v h:Int):List Int:=if pa (AD es h)=h then KA he lm v (E8 es pa he oi lm kp H (AD es h)) else[h]
noncomputable def Gv(v h:Int):List Int:=
 if pa (AD es h)=h then((Gr he lm v (E8 es pa he oi lm kp H (AD es h))).reverse.map tw++[h])++(JD he lm v (E8 es pa he oi lm kp H (AD es h))).reverse.map tw else[h]
noncomputable def Eb(v:Int):List Int:=(Mu es oi kp v).flatMap (Gv es pa he oi lm kp H v)
noncomputable def Pe(N v:Int):List Int:=if 0<=v/\v<N then(if 0<=pa v then[tw (pa v)] else[])++Eb es pa he oi lm kp H v else[]
noncomputable def czF(C:Int->Bool):Nat->Int->Bool
 | 0,_=>false
 | k+1,v=>if 0<=pa v then(czF C k (Aj es (pa v)) !=xr C (Xl (Eb es pa he oi lm kp H (Aj es (pa v))) (pa v))) else false
noncomputable def Xk(C:Int->Bool)(v:Int):Bool:=czF es pa he oi lm kp H C (he v).toNat v
noncomputable def Gt(C:Int->Bool)(k:Int):Bool:=Xk es pa he oi lm kp H C (Aj es k) !=xr C (Xl (Eb es pa he oi lm kp H (Aj es k)) k)
noncomputable def SG(C:Int->Bool)(k:Int):Bool:=if 0<=pa (Aj es k)/\k=tw (pa (Aj es k)) then Xk es pa he oi lm kp H C (Aj es k) else(Gt es pa he oi lm kp H C k !=C (k / 2))
end
structure Nf (es:List Pr) (pa he oi lm kp:Int->Int) (N:Int) (H:Nat):Prop where
 frs:CD es pa he oi N
 top:∀v,0<=v->v<N->he v<H
 lms:∀b,DO es pa oi b->lm b= -(he (AD es b))-1\/lm b=he (AD es b)
 ord:∀h k,DS es oi h->DS es oi k->h≠k->Aj es h=Aj es k->kp h<=kp k->∀b c,Rt es pa he oi h b->Rt es pa he oi k c->lm b<=lm c
section
variable{es:List Pr}{pa he oi lm kp:Int->Int}{N:Int}{H:Nat}{u v w x:Int}{C:Int->Bool}
theorem Ct(hL:Nf es pa he oi lm kp N H){h:Int}:h∈Mu es oi kp v↔DS es oi h/\Aj es h=v:=by
 unfold Mu;rw[List.mem_mergeSort,A1D,Bb hL.frs.val];constructor
 .rintro⟨⟨_,_,h1⟩,h2⟩;exact⟨by simpa using h2,h1⟩
 rintro⟨h1,h2⟩;exact⟨⟨h1.1.1,h1.1.2,h2⟩,by simpa using h1⟩
theorem Mt:(Mu es oi kp v).Nodup:=(List.mergeSort_perm _ _).nodup_iff.2 (List.Nodup.sublist A1X (E0 v))
theorem Yu:(Mu es oi kp v).Pairwise fun h k=>kp h<=kp k:=by
 have:=List.pairwise_mergeSort (le:=fun h k:Int=>decide (kp h<=kp k)) (fun a b c h1 h2=>by simp at h1 h2 ⊢;omega) (fun a b=>by simp;omega) ((Bs es v).filter fun h=>decide (DS es oi h));exact this.imp fun h=>by simpa using h
theorem Mv(hL:Nf es pa he oi lm kp N H)(h0:0<=v)(h1:v<N):E8 es pa he oi lm kp H v=(Mu es oi kp v).flatMap (FF es pa he oi lm kp H v):=by
 have ht:=hL.top v h0 h1;have hp:=hL.frs.pos v h0 h1;obtain⟨f,hf⟩:∃f,H-(he v).toNat=f+1:=⟨H-(he v).toNat-1,by omega⟩;unfold E8;rw[hf];show(Mu es oi kp v).flatMap _=_;have key:∀l:List Int,(∀h,h∈l->h∈Mu es oi kp v)->l.flatMap (fun h=>if pa (AD es h)=h then KA he lm v (opnF es pa he oi lm kp f (AD es h)) else[h])=l.flatMap (FF es pa he oi lm kp H v):=by
  intro l
  induction l with
  | nil=>intro _;rfl
  | cons h l ih=>
   intro hl;rw[A2K,A2K,ih fun x hx=>hl x (by simp[hx])]
   congr 1
   obtain⟨q1,q2⟩:=(Ct hL).1 (hl h (by simp));unfold FF;split
   .rename_i ht;have:=(hL.frs.tree ⟨q1,ht⟩).1;rw[q2] at this;unfold E8;rw[show H-(he (AD es h)).toNat=f by omega]
   rfl
 exact key _ fun _ h=>h
theorem Nf.ind(hL:Nf es pa he oi lm kp N H){P:Int->Prop}(hP:∀v,0<=v->v<N->(∀h,GP es pa oi h->Aj es h=v->P (AD es h))->P v):∀v,0<=v->v<N->P v:=by
 have:∀(n:Nat) (v:Int),0<=v->v<N->(H:Int)-he v<=n->P v:=by
  intro n
  induction n with
  | zero=>intro v h0 h1 hn;have:=hL.top v h0 h1;omega
  | succ n ih=>
   intro v h0 h1 hn;refine hP v h0 h1 fun h hh hv=>?_;have:=(hL.frs.tree hh).1;have r:=(hL.frs.rng hh.1.1).2;exact ih _ r.1 r.2 (by rw[this,hv];omega)
 exact fun v h0 h1=>this H v h0 h1 (by have:=hL.frs.pos v h0 h1;omega)
theorem JI(hL:Nf es pa he oi lm kp N H){b:Int}(hb:DO es pa oi b):(-(he v)<=lm b/\lm b<he v)↔he (AD es b)<he v:=by
 have r:=(hL.frs.rng hb.1.1).2;have:=hL.frs.pos _ r.1 r.2;rcases hL.lms b hb with e|e<;>rw[e]<;>omega
theorem UZ(hL:Nf es pa he oi lm kp N H):∀v,0<=v->v<N->∀b,b∈E8 es pa he oi lm kp H v↔(DO es pa oi b/\BJ es pa v (Aj es b)/\he (AD es b)<he v):=by
 refine hL.ind fun v h0 h1 ih b=>?_;have hF:=hL.frs;rw[Mv hL h0 h1,A1R];have seg:∀h,DS es oi h->Aj es h=v->(b∈FF es pa he oi lm kp H v h↔Rt es pa he oi h b):=fun h ho hv=>by
  unfold FF;split
  .rename_i ht;unfold KA;rw[A1D,ih h ⟨ho,ht⟩ hv b];have q:=(hF.tree ⟨ho,ht⟩).1;constructor
   .rintro⟨⟨a1,a2,a3⟩,a4⟩;exact⟨a1,by rw[hv];exact(JI hL a1).1 (by simpa using a4),.inr ⟨⟨ho,ht⟩,a2⟩⟩
   rintro⟨a1,a2,a3⟩;rw[hv] at a2;refine⟨⟨a1,?_,by rw[q,hv];omega⟩,by simpa using (JI hL a1).2 a2⟩;rcases a3 with rfl|a3
   .exact absurd ht a1.2
   exact a3.2
  rename_i ht;rw[A2F];constructor
  .rintro rfl;exact Rt.self hF ⟨ho,ht⟩
  exact fun h=>Dh ⟨ho,ht⟩ h
 constructor
 .rintro⟨h,hh,hb⟩;obtain⟨q1,q2⟩:=(Ct hL).1 hh;have:=(seg h q1 q2).1 hb;exact⟨this.1,by rw[<-q2];exact this.under hF,by rw[<-q2];exact this.2.1⟩
 rintro⟨a1,a2,a3⟩;obtain⟨m,m1,m2,m3⟩:=PA hF a1 a2 a3;exact⟨m,(Ct hL).2 ⟨m1,m2⟩,(seg m m1 m2).2 m3⟩
theorem Lr(hL:Nf es pa he oi lm kp N H){h b:Int}(ho:DS es oi h)(hv:Aj es h=v):b∈FF es pa he oi lm kp H v h↔Rt es pa he oi h b:=by
 have hF:=hL.frs;have r:=hF.rng ho.1;unfold FF;split
 .rename_i ht;unfold KA;rw[A1D,UZ hL _ r.2.1 r.2.2];have q:=(hF.tree ⟨ho,ht⟩).1;constructor
  .rintro⟨⟨a1,a2,a3⟩,a4⟩;exact⟨a1,by rw[hv];exact(JI hL a1).1 (by simpa using a4),.inr ⟨⟨ho,ht⟩,a2⟩⟩
  rintro⟨a1,a2,a3⟩;rw[hv] at a2;refine⟨⟨a1,?_,by rw[q,hv];omega⟩,by simpa using (JI hL a1).2 a2⟩;rcases a3 with rfl|a3
  .exact absurd ht a1.2
  exact a3.2
 rename_i ht;rw[A2F];constructor
 .rintro rfl;exact Rt.self hF ⟨ho,ht⟩
 exact fun h=>Dh ⟨ho,ht⟩ h
theorem Rt.uniq(hF:CD es pa he oi N){h k b:Int}(hh:Rt es pa he oi h b)(hk:Rt es pa he oi k b)(hv:Aj es h=Aj es k):h=k:=by
 have rb:=hF.rng hh.1.1.1;rcases hh.2.2 with f|⟨f1,f2⟩<;>rcases hk.2.2 with g|⟨g1,g2⟩
 .rw[<-f,<-g]
 .exfalso;have:=(hF.tree g1).1;have a:=(g2.le hF rb.1.1 rb.1.2).2;rw[f,hv] at a;rcases a with a|a
  .rw[a] at this;omega
  omega
 .exfalso;have:=(hF.tree f1).1;have a:=(f2.le hF rb.1.1 rb.1.2).2;rw[g,<-hv] at a;rcases a with a|a
  .rw[a] at this;omega
  omega
 have q1:=(hF.tree f1).1;have q2:=(hF.tree g1).1;have:=f2.same hF g2 rb.1.1 rb.1.2 (by rw[q1,q2,hv]);rw[<-f1.2,this,g1.2]
theorem Hd(hL:Nf es pa he oi lm kp N H):∀v,0<=v->v<N->(E8 es pa he oi lm kp H v).Pairwise (fun a b=>lm a<=lm b)/\(E8 es pa he oi lm kp H v).Nodup:=by
 refine hL.ind fun v h0 h1 ih=>?_;have hF:=hL.frs;rw[Mv hL h0 h1];have seg:∀h,h∈Mu es oi kp v->(FF es pa he oi lm kp H v h).Pairwise (fun a b=>lm a<=lm b)/\(FF es pa he oi lm kp H v h).Nodup:=fun h hh=>by
  obtain⟨q1,q2⟩:=(Ct hL).1 hh;unfold FF;split
  .rename_i ht;obtain⟨i1,i2⟩:=ih h ⟨q1,ht⟩ q2;exact⟨i1.sublist A1X,i2.sublist A1X⟩
  exact⟨List.pairwise_singleton _ _,by simp⟩
 have hord:(Mu es oi kp v).Pairwise fun h k=>h≠k/\kp h<=kp k:=(Mt (es:=es) (oi:=oi) (kp:=kp) (v:=v)).and Yu;constructor
 .rw[List.pairwise_flatMap];refine⟨fun h hh=>(seg h hh).1,hord.imp_of_mem fun{h k} hh hk hhk a ha b hb=>?_⟩;obtain⟨q1,q2⟩:=(Ct hL).1 hh;obtain⟨r1,r2⟩:=(Ct hL).1 hk;exact hL.ord h k q1 r1 hhk.1 (q2.trans r2.symm) hhk.2 a b ((Lr hL q1 q2).1 ha) ((Lr hL r1 r2).1 hb)
 unfold List.Nodup;rw[List.pairwise_flatMap];refine⟨fun h hh=>(seg h hh).2,hord.imp_of_mem fun{h k} hh hk hhk a ha b hb e=>?_⟩;subst e;obtain⟨q1,q2⟩:=(Ct hL).1 hh;obtain⟨r1,r2⟩:=(Ct hL).1 hk;exact hhk.1 (Rt.uniq hF ((Lr hL q1 q2).1 ha) ((Lr hL r1 r2).1 hb) (q2.trans r2.symm))
theorem Kv(hL:Nf es pa he oi lm kp N H){h:Int}(hh:GP es pa oi h)(hv:Aj es h=v):E8 es pa he oi lm kp H (AD es h)=Gr he lm v (E8 es pa he oi lm kp H (AD es h))++(KA he lm v (E8 es pa he oi lm kp H (AD es h))++JD he lm v (E8 es pa he oi lm kp H (AD es h))):=by
 have r:=hL.frs.rng hh.1.1;rw[hv] at r;have hp:=hL.frs.pos v r.1.1 r.1.2;have hs:=(Hd hL _ r.2.1 r.2.2).1;generalize E8 es pa he oi lm kp H (AD es h)=l at hs;have e1:=G4 (x:= -(he v)) hs;have hs2:(l.filter fun b=>decide (-(he v)<=lm b)).Pairwise (fun a b=>lm a<=lm b):=hs.sublist A1X;have e2:=G4 (x:=he v) hs2;rw[List.filter_filter,List.filter_filter] at e2;have e3:(l.filter fun b=>decide (lm b<he v)&&decide (-(he v)<=lm b))=KA he lm v l:=by
  unfold KA;refine List.filter_congr fun b _=>?_;rw[A3a];simp;omega
 have e4:(l.filter fun b=>decide (he v<=lm b)&&decide (-(he v)<=lm b))=JD he lm v l:=by
  unfold JD;refine List.filter_congr fun b _=>?_;rw[A3a];simp;omega
 rw[e3,e4] at e2;unfold Gr;rw[e2];exact e1.symm
theorem TN(hL:Nf es pa he oi lm kp N H){h t:Int}(hh:GP es pa oi h)(hv:Aj es h=v):(t∈Gr he lm v (E8 es pa he oi lm kp H (AD es h))\/t∈JD he lm v (E8 es pa he oi lm kp H (AD es h)))↔(DO es pa oi t/\AD es t=v/\BJ es pa (AD es h) (Aj es t)):=by
 have hF:=hL.frs;have r:=hF.rng hh.1.1;rw[hv] at r;have q:=(hF.tree hh).1;rw[hv] at q;have hp:=hF.pos v r.1.1 r.1.2;unfold Gr JD;rw[A1D,A1D,UZ hL _ r.2.1 r.2.2];constructor
 .intro hm;have h1:(DO es pa oi t/\BJ es pa (AD es h) (Aj es t)/\he (AD es t)<he (AD es h))/\(lm t< -(he v)\/he v<=lm t):=by
   rcases hm with⟨a,b⟩|⟨a,b⟩
   .exact⟨a,.inl (by simpa using b)⟩
   exact⟨a,.inr (by simpa using b)⟩
  obtain⟨⟨a1,a2,a3⟩,a4⟩:=h1;have a5:¬he (AD es t)<he v:=fun c=>by have:=(JI hL a1).2 c;omega
  have rt:=hF.rng a1.1.1;have e:BJ es pa v (Aj es t):=by have:=(hF.tree hh).2;rw[hv] at this;exact a2.trans this
  exact⟨a1,(hF.back a1).1.same hF e rt.1.1 rt.1.2 (by omega),a2⟩
 rintro⟨a1,a2,a3⟩;have b1:he (AD es t)<he (AD es h):=by rw[a2];omega
 rcases hL.lms t a1 with e|e
 .left;exact⟨⟨a1,a3,b1⟩,by simp[e,a2];omega⟩
 right;exact⟨⟨a1,a3,b1⟩,by simp[e,a2]⟩
theorem Kl(hL:Nf es pa he oi lm kp N H){h k:Int}(ho:DS es oi h)(hv:Aj es h=v):k∈Gv es pa he oi lm kp H v h↔(k=h\/∃t,k=tw t/\DO es pa oi t/\AD es t=v/\GP es pa oi h/\BJ es pa (AD es h) (Aj es t)):=by
 unfold Gv;split
 .rename_i ht;have key:=fun t=>TN hL ⟨ho,ht⟩ hv (t:=t);simp only[A1C,A1G,A3n,A2F];constructor
  .rintro((⟨t,h1,rfl⟩|rfl)|⟨t,h1,rfl⟩)
   .obtain⟨a1,a2,a3⟩:=(key t).1 (.inl h1);exact .inr ⟨t,rfl,a1,a2,⟨ho,ht⟩,a3⟩
   .exact .inl rfl
   obtain⟨a1,a2,a3⟩:=(key t).1 (.inr h1);exact .inr ⟨t,rfl,a1,a2,⟨ho,ht⟩,a3⟩
  rintro(rfl|⟨t,rfl,a1,a2,_,a3⟩)
  .exact .inl (.inr rfl)
  rcases(key t).2 ⟨a1,a2,a3⟩ with h1|h1
  .exact .inl (.inl ⟨t,h1,rfl⟩)
  exact .inr ⟨t,h1,rfl⟩
 rename_i ht;rw[A2F];constructor
 .exact .inl
 rintro(h|⟨t,_,_,_,q,_⟩)
 .exact h
 exact absurd q.2 ht
theorem FI(hL:Nf es pa he oi lm kp N H){k:Int}:k∈Eb es pa he oi lm kp H v↔((DS es oi k/\Aj es k=v)\/∃t,k=tw t/\DO es pa oi t/\AD es t=v):=by
 have hF:=hL.frs;unfold Eb;rw[A1R];constructor
 .rintro⟨h,hh,hk⟩;obtain⟨q1,q2⟩:=(Ct hL).1 hh;rcases(Kl hL q1 q2).1 hk with rfl|⟨t,h1,h2,h3,_⟩
  .exact .inl ⟨q1,q2⟩
  exact .inr ⟨t,h1,h2,h3⟩
 rintro(⟨q1,q2⟩|⟨t,rfl,h2,h3⟩)
 .exact⟨k,(Ct hL).2 ⟨q1,q2⟩,(Kl hL q1 q2).2 (.inl rfl)⟩
 have r:=hF.rng h2.1.1;obtain⟨b1,b2⟩:=hF.back h2;rw[h3] at b1 b2;have hne:v≠Aj es t:=fun e=>by rw[<-e] at b2;omega
 obtain⟨l,hl⟩:=b1.dp;obtain⟨k,k1,k2,k3⟩:=hl.wlk hF r.1.1 r.1.2 hne;obtain⟨z1,_,z3⟩:=hl.mem hF r.1.1 r.1.2 k k3;exact⟨k,(Ct hL).2 ⟨z1.1,k2⟩,(Kl hL z1.1 k2).2 (.inr ⟨t,rfl,h2,h3,z1,z3⟩)⟩
theorem IY(hF:CD es pa he oi N){t:Int}(ht:DS es oi t):¬DS es oi (tw t):=fun h=>QF t ((hF.orn_ne h ht).1 (Kj t))
theorem Iy(hL:Nf es pa he oi lm kp N H)(h0:0<=v)(h1:v<N):(Eb es pa he oi lm kp H v).Nodup:=by
 have hF:=hL.frs;unfold Eb List.Nodup;rw[List.pairwise_flatMap];refine⟨fun h hh=>?_,(Mt (es:=es) (oi:=oi) (kp:=kp) (v:=v)).imp_of_mem fun{h k} hh hk hne a ha b hb e=>?_⟩
 .obtain⟨q1,q2⟩:=(Ct hL).1 hh;unfold Gv;split
  .rename_i ht;have r:=hF.rng q1.1;have hn:=(Hd hL _ r.2.1 r.2.2).2;have key:=fun t=>TN hL ⟨q1,ht⟩ q2 (t:=t);have hinj:∀l:List Int,l.Nodup->(l.reverse.map tw).Nodup:=fun l hl=>by
    unfold List.Nodup;rw[A2b];have:l.reverse.Nodup:=List.pairwise_reverse.2 (hl.imp fun h e=>h e.symm);exact this.imp fun h e=>h (GZ e)
   have n1:=hinj _ (hn.sublist (A1X (p:=fun b=>decide (lm b< -(he v)))));have n2:=hinj _ (hn.sublist (A1X (p:=fun b=>decide (he v<=lm b))));show(_++_:List Int).Nodup;rw[A1I,A1I];refine⟨⟨n1,by simp,fun a ha b hb e=>?_⟩,n2,fun a ha b hb e=>?_⟩
   .simp at hb;subst hb e;obtain⟨t,ht',e2⟩:=A1G.1 ha;have:=(key t).1 (.inl (A3n.1 ht'));rw[<-e2] at q1;exact IY hF this.1.1 q1
   subst e;obtain⟨t,ht',e2⟩:=A1G.1 hb;have:=(key t).1 (.inr (A3n.1 ht'));rcases A1C.1 ha with ha|ha
   .obtain⟨t2,ht2,e3⟩:=A1G.1 ha;rw[<-e2] at e3;have e4:=GZ e3;subst e4;have m1:=(A1D.1 (A3n.1 ht')).2;have m2:=(A1D.1 (A3n.1 ht2)).2;have:=hF.pos v h0 h1;simp at m1 m2;omega
   simp at ha;rw[ha] at e2;rw[<-e2] at q1;exact IY hF this.1.1 q1
  simp
 subst e;obtain⟨q1,q2⟩:=(Ct hL).1 hh;obtain⟨r1,r2⟩:=(Ct hL).1 hk;rcases(Kl hL q1 q2).1 ha with e|⟨t,e,t1,t2,t3,t4⟩<;>rcases(Kl hL r1 r2).1 hb with f|⟨t',f,s1,s2,s3,s4⟩
 .exact hne (e.symm.trans f)
 .rw[f] at e;rw[<-e] at q1;exact IY hF s1.1 q1
 .rw[e] at f;rw[<-f] at r1;exact IY hF t1.1 r1
 rw[e] at f;have e2:=GZ f;subst e2;have rt:=hF.rng t1.1.1;have a1:=(hF.tree t3).1;have a2:=(hF.tree s3).1;have:=t4.same hF s4 rt.1.1 rt.1.2 (by rw[a1,a2,q2,r2]);exact hne (by rw[<-t3.2,this,s3.2])
theorem XZ(hL:Nf es pa he oi lm kp N H):HL es (Pe es pa he oi lm kp H N):=by
 have hF:=hL.frs;refine⟨fun v k=>?_,fun v=>?_⟩
 .unfold Pe;split
  .rename_i hv;rw[A1C,FI hL];constructor
   .rintro(hk|⟨k1,k2⟩|⟨t,rfl,t1,t2⟩)
    .split at hk
     .rename_i hp;simp at hk;subst hk;obtain⟨a1,a2,_⟩:=hF.par hv.1 hv.2 hp;exact⟨a1.1.1.tw,by rw[BL a1.1.1,a2]⟩
     simp at hk
    .exact⟨k1.1,k2⟩
    exact⟨t1.1.1.tw,by rw[BL t1.1.1,t2]⟩
   rintro⟨k1,k2⟩;by_cases c:DS es oi k
   .exact .inr (.inl ⟨c,k2⟩)
   have ho:DS es oi (tw k):=by
    refine⟨k1.tw,?_⟩;rw[Kj];have h0:=k1.1;have h1:=k1.2;have hn:oi (k / 2)≠k:=fun e=>c ⟨k1,e⟩;rcases hF.ori (k / 2) (by omega) (by omega) with e|e<;>rw[e] at hn ⊢<;>unfold tw<;>split<;>omega
   by_cases ht:pa (AD es (tw k))=tw k
   .left;rw[Ef k1,k2] at ht;rw[if_pos (by rw[ht];exact ho.1.1),ht,DK];simp
   exact .inr (.inr ⟨tw k,(DK k).symm,⟨ho,ht⟩,by rw[Ef k1,k2]⟩)
  rename_i hv;constructor
  .intro h;simp at h
  rintro⟨k1,k2⟩;have:=(hF.rng k1).1;rw[k2] at this;exact absurd this hv
 unfold Pe;split
 .rename_i hv;rw[A1I];refine⟨by split<;>simp,Iy hL hv.1 hv.2,fun a ha b hb e=>?_⟩;subst e;split at ha
  .rename_i hp;simp at ha;subst ha;obtain⟨a1,a2,_⟩:=hF.par hv.1 hv.2 hp;rcases(FI hL).1 hb with⟨k1,k2⟩|⟨t,e,t1,t2⟩
   .exact IY hF a1.1 k1
   have:=GZ e;subst this;exact t1.2 (by rw[a2])
  simp at ha
 simp
theorem xr_sg(hL:Nf es pa he oi lm kp N H){h:Int}(ho:DS es oi h)(hv:Aj es h=v)(hC:pa (AD es h)=h->C (h / 2)=xr C (E8 es pa he oi lm kp H (AD es h))):xr C (Gv es pa he oi lm kp H v h)=xr C (FF es pa he oi lm kp H v h):=by
 unfold Gv FF;split
 .rename_i ht;have e:=Kv hL ⟨ho,ht⟩ hv;have e2:=congrArg (xr C) e;rw[CS,CS] at e2;rw[CS,CS,KS,KS,HQ,HQ];show((_ !=(C (h / 2) !=false)) !=_)=_;rw[hC ht,e2];generalize xr C (Gr he lm v (E8 es pa he oi lm kp H (AD es h)))=a;generalize xr C (KA he lm v (E8 es pa he oi lm kp H (AD es h)))=b;generalize xr C (JD he lm v (E8 es pa he oi lm kp H (AD es h)))=c;cases a<;>cases b<;>cases c<;>rfl
 rfl
theorem ev_xr(hL:Nf es pa he oi lm kp N H)(hE:Evn es C):∀v,0<=v->v<N->xr C (E8 es pa he oi lm kp H v)=if 0<=pa v then C (pa v / 2) else false:=by
 refine hL.ind fun v h0 h1 ih=>?_;have hF:=hL.frs;have hR:=XZ hL;have hp:(Pe es pa he oi lm kp H N v).Perm (Bs es v):=(A3F (hR.nodup v) (E0 v)).2 fun a=>by
  rw[hR.mem,Bb hF.val];exact⟨fun h=>⟨h.1.1,h.1.2,h.2⟩,fun h=>⟨⟨h.1,h.2.1⟩,h.2.2⟩⟩
 have e1:xr C (Pe es pa he oi lm kp H N v)=false:=by
  rw[Xq,hp.countP_eq,hE v];rfl
 have e2:xr C (Eb es pa he oi lm kp H v)=xr C (E8 es pa he oi lm kp H v):=by
  unfold Eb;rw[Mv hL h0 h1];refine OR fun h hh=>?_;obtain⟨q1,q2⟩:=(Ct hL).1 hh;refine xr_sg hL q1 q2 fun ht=>?_;rw[ih h ⟨q1,ht⟩ q2,ht,if_pos q1.1.1]
 unfold Pe at e1;rw[if_pos ⟨h0,h1⟩,CS,e2] at e1;split
 .rename_i hp;rw[if_pos hp] at e1;simp only[xr,Kj] at e1;cases a:C (pa v / 2)<;>cases b:xr C (E8 es pa he oi lm kp H v)<;>simp[a,b] at e1 ⊢
 rename_i hp;rw[if_neg hp] at e1;simpa [xr] using e1
theorem M2(hL:Nf es pa he oi lm kp N H){h:Int}(hh:GP es pa oi h):Xk es pa he oi lm kp H C (AD es h)=Gt es pa he oi lm kp H C h:=by
 have hF:=hL.frs;have r:=hF.rng hh.1.1;have q:=(hF.tree hh).1;have hp:=hF.pos _ r.1.1 r.1.2;unfold Xk Gt;rw[q,show(he (Aj es h)+1).toNat=(he (Aj es h)).toNat+1 by omega];show(if 0<=pa (AD es h) then _ else _)=_;rw[hh.2,if_pos hh.1.1.1]
 rfl
theorem ZV(hL:Nf es pa he oi lm kp N H)(hE:Evn es C):∀v,0<=v->v<N->∀b l1 l2,E8 es pa he oi lm kp H v=l1++b::l2->Gt es pa he oi lm kp H C b=(Xk es pa he oi lm kp H C v !=xr C l1):=by
 refine hL.ind fun v h0 h1 ih b l1 l2 hs=>?_;have hF:=hL.frs;have hev:=ev_xr hL hE;have hnd:=(Hd hL v h0 h1).2;have hb:b∈E8 es pa he oi lm kp H v:=by rw[hs];simp
 have hb':=hb;rw[Mv hL h0 h1,A1R] at hb';obtain⟨h,hh,hbs⟩:=hb';obtain⟨o1,o2,ho⟩:=A3q hh;obtain⟨q1,q2⟩:=(Ct hL).1 hh;have eO:E8 es pa he oi lm kp H v=o1.flatMap (FF es pa he oi lm kp H v)++(FF es pa he oi lm kp H v h++o2.flatMap (FF es pa he oi lm kp H v)):=by rw[Mv hL h0 h1,ho];simp
 have eI:Eb es pa he oi lm kp H v=o1.flatMap (Gv es pa he oi lm kp H v)++(Gv es pa he oi lm kp H v h++o2.flatMap (Gv es pa he oi lm kp H v)):=by unfold Eb;rw[ho];simp
 have exo:xr C (o1.flatMap (Gv es pa he oi lm kp H v))=xr C (o1.flatMap (FF es pa he oi lm kp H v)):=OR fun k hk=>by
  obtain⟨r1,r2⟩:=(Ct (v:=v) (h:=k) hL).1 (by rw[ho];simp[hk]);refine xr_sg hL r1 r2 fun ht=>?_;have r:=(hF.rng r1.1).2;rw[hev _ r.1 r.2,ht,if_pos r1.1.1]
 have hnI:=Iy hL h0 h1;obtain⟨m1,m2,hm⟩:=A3q hbs
 -- where b stands in the list
 have el1:l1=o1.flatMap (FF es pa he oi lm kp H v)++m1:=by
  have e1:E8 es pa he oi lm kp H v=(o1.flatMap (FF es pa he oi lm kp H v)++m1)++b::(m2++o2.flatMap (FF es pa he oi lm kp H v)):=by rw[eO,hm];simp
  have n1:b∉o1.flatMap (FF es pa he oi lm kp H v)++m1:=by
   rw[e1,A1I] at hnd;exact fun hx=>hnd.2.2 b hx b (by simp) rfl
  have n2:b∉l1:=by
   rw[hs,A1I] at hnd;exact fun hx=>hnd.2.2 b hx b (by simp) rfl
  rw[<-F8 (l2:=l2) n2,<-hs,e1,F8 n1]
 rw[el1,CS,<-exo];by_cases ht:pa (AD es h)=h
 .have e3:=Kv hL ⟨q1,ht⟩ q2;have hse:FF es pa he oi lm kp H v h=KA he lm v (E8 es pa he oi lm kp H (AD es h)):=by unfold FF;rw[if_pos ht]
  have hsg:Gv es pa he oi lm kp H v h=((Gr he lm v (E8 es pa he oi lm kp H (AD es h))).reverse.map tw++[h])++(JD he lm v (E8 es pa he oi lm kp H (AD es h))).reverse.map tw:=by unfold Gv;rw[if_pos ht]
  rw[hse] at hm;have hi:=ih h ⟨q1,ht⟩ q2 b (Gr he lm v (E8 es pa he oi lm kp H (AD es h))++m1) (m2++JD he lm v (E8 es pa he oi lm kp H (AD es h))) (e3.trans (by rw[hm];simp));rw[hi,M2 hL ⟨q1,ht⟩,CS];have eb:Xl (Eb es pa he oi lm kp H v) h=o1.flatMap (Gv es pa he oi lm kp H v)++(Gr he lm v (E8 es pa he oi lm kp H (AD es h))).reverse.map tw:=by
   have e4:Eb es pa he oi lm kp H v=(o1.flatMap (Gv es pa he oi lm kp H v)++(Gr he lm v (E8 es pa he oi lm kp H (AD es h))).reverse.map tw)++h::((JD he lm v (E8 es pa he oi lm kp H (AD es h))).reverse.map tw++o2.flatMap (Gv es pa he oi lm kp H v)):=by rw[eI,hsg];simp
   have n1:h∉o1.flatMap (Gv es pa he oi lm kp H v)++(Gr he lm v (E8 es pa he oi lm kp H (AD es h))).reverse.map tw:=by
    rw[e4,A1I] at hnI;exact fun hx=>hnI.2.2 h hx h (by simp) rfl
   rw[e4,F8 n1]
  unfold Gt;rw[q2,eb,CS,KS,HQ];generalize xr C (Gr he lm v (E8 es pa he oi lm kp H (AD es h)))=a;generalize Xk es pa he oi lm kp H C v=b;generalize xr C (o1.flatMap (Gv es pa he oi lm kp H v))=c;generalize xr C m1=d;cases a<;>cases b<;>cases c<;>cases d<;>rfl
 have hse:FF es pa he oi lm kp H v h=[h]:=by unfold FF;rw[if_neg ht]
 have hsg:Gv es pa he oi lm kp H v h=[h]:=by unfold Gv;rw[if_neg ht]
 rw[hse] at hm hbs;rw[A2F] at hbs;subst hbs;have em1:m1=[]:=by
  have:=congrArg List.length hm;simp at this;exact A1s (by omega)
 subst em1;have eb:Xl (Eb es pa he oi lm kp H v) b=o1.flatMap (Gv es pa he oi lm kp H v):=by
  have e4:Eb es pa he oi lm kp H v=o1.flatMap (Gv es pa he oi lm kp H v)++b::o2.flatMap (Gv es pa he oi lm kp H v):=by rw[eI,hsg];simp
  have n1:b∉o1.flatMap (Gv es pa he oi lm kp H v):=by
   rw[e4,A1I] at hnI;exact fun hx=>hnI.2.2 b hx b (by simp) rfl
  rw[e4,F8 n1]
 unfold Gt;rw[q2,eb];simp[xr]
theorem Vz(hL:Nf es pa he oi lm kp N H)(hE:Evn es C){t:Int}(ht:DO es pa oi t):Gt es pa he oi lm kp H C (tw t)=(Gt es pa he oi lm kp H C t !=C (t / 2)):=by
 have hF:=hL.frs;have rt:=hF.rng ht.1.1;obtain⟨v,hv⟩:∃v,v=AD es t:=⟨_,rfl⟩;have h0:0<=v:=by rw[hv];exact rt.2.1
 have h1:v<N:=by rw[hv];exact rt.2.2
 have hnI:=Iy hL h0 h1;have hev:=ev_xr hL hE;have hm:tw t∈Eb es pa he oi lm kp H v:=(FI hL).2 (.inr ⟨t,rfl,ht,hv.symm⟩);have hm':=hm;unfold Eb at hm';rw[A1R] at hm';obtain⟨h,hh,hts⟩:=hm';obtain⟨o1,o2,ho⟩:=A3q hh;obtain⟨q1,q2⟩:=(Ct hL).1 hh;have eI:Eb es pa he oi lm kp H v=o1.flatMap (Gv es pa he oi lm kp H v)++(Gv es pa he oi lm kp H v h++o2.flatMap (Gv es pa he oi lm kp H v)):=by unfold Eb;rw[ho];simp
 obtain⟨hT,hTa⟩:GP es pa oi h/\BJ es pa (AD es h) (Aj es t):=by
  rcases(Kl hL q1 q2).1 hts with e|⟨t',e,_,_,t3,t4⟩
  .rw[<-e] at q1;exact absurd q1 (IY hF ht.1)
  have:=GZ e;subst this;exact⟨t3,t4⟩
 have rh:=(hF.rng hT.1.1).2;have e3:=Kv hL hT q2;have hnz:=(Hd hL _ rh.1 rh.2).2;have hsg:Gv es pa he oi lm kp H v h=((Gr he lm v (E8 es pa he oi lm kp H (AD es h))).reverse.map tw++[h])++(JD he lm v (E8 es pa he oi lm kp H (AD es h))).reverse.map tw:=by unfold Gv;rw[if_pos hT.2]
 have hCh:C (h / 2)=xr C (E8 es pa he oi lm kp H (AD es h)):=by rw[hev _ rh.1 rh.2,hT.2,if_pos q1.1.1]
 have eh:Gt es pa he oi lm kp H C h=(Xk es pa he oi lm kp H C v !=(xr C (o1.flatMap (Gv es pa he oi lm kp H v)) !=xr C (Gr he lm v (E8 es pa he oi lm kp H (AD es h))))):=by
  have e4:Eb es pa he oi lm kp H v=(o1.flatMap (Gv es pa he oi lm kp H v)++(Gr he lm v (E8 es pa he oi lm kp H (AD es h))).reverse.map tw)++h::((JD he lm v (E8 es pa he oi lm kp H (AD es h))).reverse.map tw++o2.flatMap (Gv es pa he oi lm kp H v)):=by rw[eI,hsg];simp
  have n1:h∉o1.flatMap (Gv es pa he oi lm kp H v)++(Gr he lm v (E8 es pa he oi lm kp H (AD es h))).reverse.map tw:=by
   rw[e4,A1I] at hnI;exact fun hx=>hnI.2.2 h hx h (by simp) rfl
  unfold Gt;rw[q2,e4,F8 n1,CS,KS,HQ]
 have hfr:Aj es (tw t)=v:=by rw[BL ht.1.1,hv]
 have hc0:=M2 (C:=C) hL hT;have hop:=ZV hL hE (AD es h) rh.1 rh.2 t;rcases(TN hL hT q2).2 ⟨ht,hv.symm,hTa⟩ with hl|hl
 .obtain⟨l1,l2,el⟩:=A3q hl;have e5:=hop l1 (l2++(KA he lm v (E8 es pa he oi lm kp H (AD es h))++JD he lm v (E8 es pa he oi lm kp H (AD es h)))) (by rw[<-A1K,<-A1L,<-el];exact e3);have e4:Eb es pa he oi lm kp H v=(o1.flatMap (Gv es pa he oi lm kp H v)++l2.reverse.map tw)++tw t::(l1.reverse.map tw++([h]++((JD he lm v (E8 es pa he oi lm kp H (AD es h))).reverse.map tw++o2.flatMap (Gv es pa he oi lm kp H v)))):=by rw[eI,hsg,el];simp
  have n1:tw t∉o1.flatMap (Gv es pa he oi lm kp H v)++l2.reverse.map tw:=by
   rw[e4,A1I] at hnI;exact fun hx=>hnI.2.2 _ hx _ (by simp) rfl
  have e6:Gt es pa he oi lm kp H C (tw t)=(Xk es pa he oi lm kp H C v !=(xr C (o1.flatMap (Gv es pa he oi lm kp H v)) !=xr C l2)):=by
   unfold Gt;rw[hfr,e4,F8 n1,CS,KS,HQ]
  rw[e6,e5,hc0,eh,el,CS];show _=((((_ !=(_ !=(_ !=(C (t / 2) !=xr C l2)))) !=_) !=_));generalize Xk es pa he oi lm kp H C v=a;generalize xr C (o1.flatMap (Gv es pa he oi lm kp H v))=b;generalize xr C l1=c;generalize xr C l2=d;generalize C (t / 2)=e;cases a<;>cases b<;>cases c<;>cases d<;>cases e<;>rfl
 obtain⟨l1,l2,el⟩:=A3q hl;have e5:=hop (Gr he lm v (E8 es pa he oi lm kp H (AD es h))++(KA he lm v (E8 es pa he oi lm kp H (AD es h))++l1)) l2 (by
  rw[A1L,A1L,<-el];exact e3);have e4:Eb es pa he oi lm kp H v=(o1.flatMap (Gv es pa he oi lm kp H v)++((Gr he lm v (E8 es pa he oi lm kp H (AD es h))).reverse.map tw++(h::l2.reverse.map tw)))++tw t::(l1.reverse.map tw++o2.flatMap (Gv es pa he oi lm kp H v)):=by rw[eI,hsg,el];simp
 have n1:tw t∉o1.flatMap (Gv es pa he oi lm kp H v)++((Gr he lm v (E8 es pa he oi lm kp H (AD es h))).reverse.map tw++(h::l2.reverse.map tw)):=by
  rw[e4,A1I] at hnI;exact fun hx=>hnI.2.2 _ hx _ (by simp) rfl
 have e7:=congrArg (xr C) e3;rw[CS,CS,el,CS] at e7;have e6:Gt es pa he oi lm kp H C (tw t)=(Xk es pa he oi lm kp H C v !=(xr C (o1.flatMap (Gv es pa he oi lm kp H v)) !=(xr C (Gr he lm v (E8 es pa he oi lm kp H (AD es h))) !=(C (h / 2) !=xr C l2)))):=by
  unfold Gt;rw[hfr,e4,F8 n1,CS,CS,KS,HQ,xr,KS,HQ]
 rw[e6,e5,hc0,eh,hCh,e7,CS,CS];show _=_;simp only[xr];generalize Xk es pa he oi lm kp H C v=a;generalize xr C (o1.flatMap (Gv es pa he oi lm kp H v))=b;generalize xr C l1=c;generalize xr C l2=d;generalize C (t / 2)=e;generalize xr C (Gr he lm v (E8 es pa he oi lm kp H (AD es h)))=f;generalize xr C (KA he lm v (E8 es pa he oi lm kp H (AD es h)))=g;cases a<;>cases b<;>cases c<;>cases d<;>cases e<;>cases f<;>cases g<;>rfl
end
end
section
open Classical
section
variable{es:List Pr}{pa he oi lm kp:Int->Int}{N:Int}{H:Nat}{u v w x:Int}{C:Int->Bool}{s:Int->Bool}
theorem VC(hL:Nf es pa he oi lm kp N H)(h0:0<=v)(h1:v<N)(hp:0<=pa v):SG es pa he oi lm kp H C (tw (pa v))=Xk es pa he oi lm kp H C v:=by
 obtain⟨a1,a2,_⟩:=hL.frs.par h0 h1 hp;unfold SG;rw[BL a1.1.1,a2,if_pos ⟨hp,rfl⟩]
theorem Rf(hL:Nf es pa he oi lm kp N H)(h0:0<=v)(h1:v<N)(hp:0<=pa v):tw (pa v)∉Eb es pa he oi lm kp H v:=fun hm=>by
 obtain⟨a1,a2,_⟩:=hL.frs.par h0 h1 hp;rcases(FI hL).1 hm with⟨k1,k2⟩|⟨t,e,t1,t2⟩
 .exact IY hL.frs a1.1 k1
 have:=GZ e;subst this;exact t1.2 (by rw[a2])
theorem Gn(hL:Nf es pa he oi lm kp N H)(h0:0<=v)(h1:v<N){k:Int}(hk:k∈Eb es pa he oi lm kp H v):Aj es k=v/\SG es pa he oi lm kp H C k=(Gt es pa he oi lm kp H C k !=C (k / 2)):=by
 have hv:Aj es k=v:=by
  rcases(FI hL).1 hk with⟨k1,k2⟩|⟨t,rfl,t1,t2⟩
  .exact k2
  rw[BL t1.1.1,t2]
 refine⟨hv,?_⟩;unfold SG;rw[hv,if_neg];rintro⟨hp,e⟩;rw[e] at hk;exact Rf hL h0 h1 hp hk
theorem P7(hL:Nf es pa he oi lm kp N H)(hE:Evn es C)(h0:0<=v)(h1:v<N){k:Int}(hk:k∈Eb es pa he oi lm kp H v):SG es pa he oi lm kp H C (tw k)=Gt es pa he oi lm kp H C k:=by
 have hF:=hL.frs;rcases(FI hL).1 hk with⟨k1,k2⟩|⟨t,rfl,t1,t2⟩
 .have r:=(hF.rng k1.1).2;by_cases ht:pa (AD es k)=k
  .have:=VC (C:=C) hL r.1 r.2 (by rw[ht];exact k1.1.1);rw[ht] at this;rw[this,M2 hL ⟨k1,ht⟩]
  have hb:DO es pa oi k:=⟨k1,ht⟩;have hm:tw k∈Eb es pa he oi lm kp H (AD es k):=(FI hL).2 (.inr ⟨k,rfl,hb,rfl⟩);rw[(Gn hL r.1 r.2 hm).2,Vz hL hE hb,Kj];cases Gt es pa he oi lm kp H C k<;>cases C (k / 2)<;>rfl
 have r:=(hF.rng t1.1.1).1;have hm:t∈Eb es pa he oi lm kp H (Aj es t):=(FI hL).2 (.inl ⟨t1.1,rfl⟩);rw[DK,(Gn hL r.1 r.2 hm).2,Vz hL hE t1]
theorem YL{l:List Int}(hn:l.Nodup){i:Nat}{h k:Int}(hh:l[i]? =some h)(hk:l[i+1]? =some k):Xl l k=Xl l h++[h]:=by
 have e:l=(l.take i)++h::k::l.drop (i+2):=by
  have h1:=(A1e.1 hh);have h2:=(A1e.1 hk);obtain⟨a1,a2⟩:=h1;obtain⟨b1,b2⟩:=h2
  conv=>lhs;rw[<-A3s i l,A2e a1,A2e b1,a2,b2]
 have n1:h∉l.take i:=fun hm=>by
  rw[e,A1I] at hn;exact hn.2.2 h hm h (by simp) rfl
 have n2:k∉l.take i++[h]:=fun hm=>by
  have e':l=(l.take i++[h])++k::l.drop (i+2):=by rw[A1L];exact e
  rw[e',A1I] at hn;exact hn.2.2 k hm k (by simp) rfl
 have c1:Xl l h=l.take i:=by
  have:=F8 (l2:=k::l.drop (i+2)) n1;rw[<-e] at this;exact this
 have c2:Xl l k=l.take i++[h]:=by
  have:=F8 (l2:=l.drop (i+2)) n2;rw[A1L,List.singleton_append,<-e] at this;exact this
 rw[c1,c2]
theorem rot_pm(hL:Nf es pa he oi lm kp N H):PM es (Pe es pa he oi lm kp H N):=by
 have hF:=hL.frs;have hR:=XZ hL;refine⟨hR,fun C hE=>⟨SG es pa he oi lm kp H C,fun h hh=>?_,fun v i h k hh hk=>?_⟩⟩
 .have r:=(hF.rng hh).1;have hm:=(hR.mem (Aj es h) h).2 ⟨hh,rfl⟩;unfold Pe at hm;rw[if_pos r,A1C] at hm;rcases hm with hm|hm
  .split at hm
   .rename_i hp;simp at hm;obtain⟨a1,a2,a3,a4,a5⟩:=hF.par r.1 r.2 hp;have hi:pa (Aj es h)∈Eb es pa he oi lm kp H (Aj es (pa (Aj es h))):=(FI hL).2 (.inl ⟨a1.1,rfl⟩);have e1:=(Gn (C:=C) hL a4 a5 hi).2;have e2:=P7 hL hE a4 a5 hi;generalize pa (Aj es h)=p at hm e1 e2;rw[hm,DK,Kj,e1,e2];cases Gt es pa he oi lm kp H C p<;>cases C (p / 2)<;>rfl
   simp at hm
  rw[P7 hL hE r.1 r.2 hm,(Gn hL r.1 r.2 hm).2];cases Gt es pa he oi lm kp H C h<;>cases C (h / 2)<;>rfl
 have hv:0<=v/\v<N:=by
  have:=(hR.mem v h).1 (A1h hh);rw[<-this.2];exact(hF.rng this.1).1
 have hnI:=Iy hL hv.1 hv.2;unfold Pe at hh hk;rw[if_pos hv] at hh hk;have key:∀j,(Eb es pa he oi lm kp H v)[j]? =some h->(Eb es pa he oi lm kp H v)[j+1]? =some k->SG es pa he oi lm kp H C (tw k)=SG es pa he oi lm kp H C h:=fun j a b=>by
  have hm:=A1h b;have hm':=A1h a;rw[P7 hL hE hv.1 hv.2 hm,(Gn hL hv.1 hv.2 hm').2];unfold Gt;rw[(Gn (C:=C) hL hv.1 hv.2 hm).1,(Gn (C:=C) hL hv.1 hv.2 hm').1,YL hnI a b,CS];simp[xr]
 by_cases hp:0<=pa v
 .rw[if_pos hp] at hh hk;cases i with
  | zero=>
   simp at hh hk;subst hh;have hm:=A1h hk;rw[P7 hL hE hv.1 hv.2 hm,VC hL hv.1 hv.2 hp];unfold Gt;rw[(Gn (C:=C) hL hv.1 hv.2 hm).1];have:Xl (Eb es pa he oi lm kp H v) k=[]:=by
    obtain⟨l,hl⟩:∃l,Eb es pa he oi lm kp H v=k::l:=by
     match hl:Eb es pa he oi lm kp H v,hk with
     | a::l,hk=>simp at hk;exact⟨l,by rw[hk]⟩
    rw[hl];exact F8 (l1:=[]) (by simp)
   rw[this];simp[xr]
  | succ i=>
   simp only[List.singleton_append,A2P] at hh hk;exact key i hh hk
 rw[if_neg hp,A1N] at hh hk;exact key i hh hk
theorem max_ex{α:Type}{p:α->Prop}{f:α->Int}{B:Int}(hp:∀a,p a->f a<=B)(h:∃a,p a):∃a,p a/\∀b,p b->f b<=f a:=by
 obtain⟨a,h1,h2⟩:=I8 (p:=p) (f:=fun a=>B-f a) (fun a ha=>by have:=hp a ha;omega) h;exact⟨a,h1,fun b hb=>by have:=h2 b hb;omega⟩
theorem con_pm(hF:CD es pa he oi N)(hs:VM es pa he oi s):∃rot,PM es rot:=by
 obtain⟨s',hs',hA⟩:=con_aln hF hs;obtain⟨H,hH⟩:∃H:Nat,∀v,0<=v->v<N->he v<H:=by
  have:∀n:Nat,∃H:Nat,∀v:Int,0<=v->v<n->he v<H:=by
   intro n
   induction n with
   | zero=>exact⟨0,fun v a b=>by omega⟩
   | succ n ih=>
    obtain⟨H,hH⟩:=ih;refine⟨H+((he n).toNat+1),fun v a b=>?_⟩;by_cases c:v=n
    .subst c;omega
    have:=hH v a (by omega);omega
  obtain⟨H,hH⟩:=this N.toNat;exact⟨H,fun v a b=>hH v a (by omega)⟩
 have lmb:∀b,DO es pa oi b-> -(H:Int)-1<=Gb es he s' b/\Gb es he s' b<=H:=fun b hb=>by
  have r:=(hF.rng hb.1.1).2;have h1:=hH _ r.1 r.2;have h2:=hF.pos _ r.1 r.2;unfold Gb;split<;>omega
 have hk:∀h,∃q:Int,(∃b,Rt es pa he oi h b)->∃b c,Rt es pa he oi h b/\Rt es pa he oi h c/\(∀d,Rt es pa he oi h d->Gb es he s' b<=Gb es he s' d/\Gb es he s' d<=Gb es he s' c)/\q=Gb es he s' b+Gb es he s' c:=fun h=>by
  by_cases hn:∃b,Rt es pa he oi h b
  .obtain⟨b,b1,b2⟩:=I8 (p:=Rt es pa he oi h) (f:=fun b=>Gb es he s' b+H+1) (fun b hb=>by have:=lmb b hb.1;omega) hn;obtain⟨c,c1,c2⟩:=max_ex (p:=Rt es pa he oi h) (f:=fun b=>Gb es he s' b) (B:=H) (fun b hb=>(lmb b hb.1).2) hn;exact⟨_,fun _=>⟨b,c,b1,c1,fun d hd=>⟨by have:=b2 d hd;omega,c2 d hd⟩,rfl⟩⟩
  exact⟨0,fun h=>absurd h hn⟩
 refine⟨_,rot_pm (lm:=Gb es he s') (kp:=fun h=>Classical.choose (hk h)) (N:=N) (H:=H) ⟨hF,hH,fun b hb=>?_,fun h k hh hk' hne hv hle b c hb hc=>?_⟩⟩
 .unfold Gb;split
  .exact .inl rfl
  exact .inr rfl
 obtain⟨b1,b2,p1,p2,p3,p4⟩:=A2X (hk h) ⟨b,hb⟩;obtain⟨c1,c2,q1,q2,q3,q4⟩:=A2X (hk k) ⟨c,hc⟩;rw[p4,q4] at hle;have e1:=p3 b hb;have e2:=q3 c hc;rcases WZ hF hs' hA hh hk' hne hv with f|f
 .exact f b c hb hc
 have f1:=f b1 c2 p1 q2;have f2:=p3 b2 p2;have f3:=q3 c2 q2;omega
end
end
section
open Classical
section
variable{es:List Pr}{pa he oi:Int->Int}{N:Int}{u v w x:Int}{rot:Int->List Int}
theorem DP.app{l l':List Int}(h:DP es pa u v l)(h':DP es pa v x l'):DP es pa u x (l++l'):=by
 induction h' with
 | nil=>simpa using h
 | snoc hp _ ih=>rw[<-A1L];exact .snoc hp ih
theorem DP.self(hF:CD es pa he oi N){l:List Int}(h:DP es pa u x l)(h0:0<=x)(h1:x<N)(e:u=x):l=[]:=by
 cases h with
 | nil=>rfl
 | snoc hp hd=>
  have r:=hF.par h0 h1 hp;have:=(hd.anc.le hF r.2.2.2.1 r.2.2.2.2).2;have r3:=r.2.2.1;rcases this with f|f
  .rw[<-f,e] at r3;omega
  rw[e] at f;omega
theorem DP.last{l:List Int}(h:DP es pa u x l)(hne:u≠x):∃l',l=l'++[pa x]/\DP es pa u (Aj es (pa x)) l':=by
 cases h with
 | nil=>exact absurd rfl hne
 | snoc hp hd=>exact⟨_,rfl,hd⟩
theorem DP.nodup(hF:CD es pa he oi N){l:List Int}(h:DP es pa u x l):0<=x->x<N->l.Nodup:=by
 induction h with
 | nil=>simp
 | @snoc x l hp hd ih=>
  intro a b;obtain⟨h1,h2,h3,h4,h5⟩:=hF.par a b hp;rw[A1I];refine⟨ih h4 h5,by simp,fun k hk k' hk' e=>?_⟩;simp at hk';subst hk' e;have:=((hd.mem hF h4 h5 _ hk).2.2.le hF h4 h5).2;rw[h2] at this;rcases this with e|e
  .rw[<-e] at h3;omega
  omega
theorem loop_sc(hF:CD es pa he oi N){b:Int}{l:List Int}(hb:DO es pa oi b)(hd:DP es pa (AD es b) (Aj es b) l):SC es (l++[b])/\(l++[b]).Nodup:=by
 have hr:=hF.rng hb.1.1;have hm:=hd.mem hF hr.1.1 hr.1.2;have htop:∀k,k∈l->he (Aj es k)<he (Aj es b):=fun k hk=>by
  obtain⟨h1,_,h3⟩:=hm k hk;have:=(hF.tree h1).1;rcases(h3.le hF hr.1.1 hr.1.2).2 with e|e
  .rw[<-e];omega
  omega
 have hbot:∀k,k∈l->he (AD es b)<he (AD es k):=fun k hk=>by
  obtain⟨h1,h2,_⟩:=hm k hk;have:=(hF.tree h1).1;have h4:=hF.rng h1.1.1;rcases(h2.le hF h4.1.1 h4.1.2).2 with e|e
  .rw[e];omega
  omega
 have hbl:b∉l:=fun h=>hb.2 (hm b h).1.2;refine⟨⟨fun a ha=>?_,fun a a' ha ha' e=>?_,fun a a' ha ha' e=>?_,fun a ha ha'=>?_⟩,?_⟩
 .rcases A1C.1 ha with h|h
  .exact(hm a h).1.1.1
  simp at h;subst h;exact hb.1.1
 .rcases A1C.1 ha with h|h<;>rcases A1C.1 ha' with h'|h'
  .obtain⟨q1,_,q3⟩:=hm a h;obtain⟨r1,_,r3⟩:=hm a' h';have e2:he (AD es a)=he (AD es a'):=by rw[(hF.tree q1).1,(hF.tree r1).1,e]
   have e3:=q3.same hF r3 hr.1.1 hr.1.2 e2;rw[<-q1.2,e3,r1.2]
  .simp at h';subst h';have:=htop a h;rw[e] at this;omega
  .simp at h;subst h;have:=htop a' h';rw[e] at this;omega
  simp at h h';rw[h,h']
 .rcases A1C.1 ha with h|h<;>rcases A1C.1 ha' with h'|h'
  .rw[<-(hm a h).1.2,e,(hm a' h').1.2]
  .simp at h';subst h';have:=hbot a h;rw[e] at this;omega
  .simp at h;subst h;have:=hbot a' h';rw[e] at this;omega
  simp at h h';rw[h,h']
 .have tt:∀k,tw k / 2=k / 2:=fun k=>by unfold tw;split<;>omega
  rcases A1C.1 ha with h|h<;>rcases A1C.1 ha' with h'|h'
  .exact QF a ((hF.orn_ne (hm _ h').1.1 (hm a h).1.1).1 (tt a))
  .simp at h';have:=(hF.orn_ne (hm a h).1.1 hb.1).1 (by rw[<-h',tt]);exact hbl (by rw[<-this];exact h)
  .simp at h;subst h;have:=(hF.orn_ne (hm _ h').1.1 hb.1).1 (tt a);exact QF _ this
  simp at h h';rw[h] at h';exact QF _ h'
 rw[A1I];refine⟨hd.nodup hF hr.1.1 hr.1.2,by simp,fun k hk k' hk' e=>?_⟩;simp at hk';subst hk' e;exact hbl hk
theorem SC.ed{l:List Int}(hS:SC es l)(hn:l.Nodup):(l.map (· / 2)).Nodup:=by
 unfold List.Nodup at *;rw[A2b];refine(A2t.2 fun i j hi hj hij=>?_);rw[A2t] at hn;intro e;rcases MN e with h|h
 .exact hn i j hi hj hij h
 exact hS.nt l[j] (List.getElem_mem _) (by rw[<-h];exact List.getElem_mem _)
noncomputable def NX(es:List Pr)(pa oi:Int->Int)(rot:Int->List Int)(b:Int):Bool:=
 decide (∃t,GP es pa oi t/\Aj es t=AD es b/\BJ es pa (AD es t) (Aj es b)/\MT (pos rot es (tw (pa (AD es b)))) (pos rot es (tw b)) (pos rot es t))
theorem Sk{a b c:Nat}:MT a b c↔MT c a b:=by unfold MT;omega
theorem Jw(hF:CD es pa he oi N)(hM:PM es rot){h k b:Int}(hh:DS es oi h)(hk:DS es oi k)(hne:h≠k)(hv:Aj es h=v)(hkv:Aj es k=v)(ho:Ov es pa he oi h k b):
  0<=pa v/\(NX es pa oi rot b=true↔MT (pos rot es (tw (pa v))) (pos rot es h) (pos rot es k)):=by
 obtain⟨⟨hb,hbv,hbh⟩,c,⟨hc,hcv,hck⟩,hcb⟩:=ho;have hR:=hM.rg;have rb:=hF.rng hb.1.1;have rc:=hF.rng hc.1.1;have rh:=hF.rng hh.1;have rk:=hF.rng hk.1;rw[hv] at hbv rh;rw[hkv] at hcv rk;obtain⟨ab,hab⟩:=hF.back hb;obtain⟨ac,hac⟩:=hF.back hc;have avb:BJ es pa v (Aj es b):=by
  rcases hbh with rfl|⟨h1,h2⟩
  .rw[hv];exact .refl
  have:=(hF.tree h1).2;rw[hv] at this;exact h2.trans this
 have avc:BJ es pa v (Aj es c):=by
  rcases hck with rfl|⟨h1,h2⟩
  .rw[hkv];exact .refl
  have:=(hF.tree h1).2;rw[hkv] at this;exact h2.trans this
 have awv:BJ es pa (AD es b) v:=ab.row hF rb.1.1 rb.1.2 avb (by omega);have awv2:BJ es pa (AD es c) v:=ac.row hF rc.1.1 rc.1.2 avc (by omega);have aww:BJ es pa (AD es c) (AD es b):=awv2.row hF rh.1.1 rh.1.2 awv (by omega);have nwv:AD es b≠v:=fun e=>by rw[e] at hbv;omega
 have nww:AD es c≠AD es b:=fun e=>by rw[e] at hcb;omega
 have pv:=(awv.up nwv).1;have pw:=(aww.up nww).1;obtain⟨tv1,tv2,tv3,tv4,tv5⟩:=hF.par rh.1.1 rh.1.2 pv;obtain⟨tw1,tw2,tw3,tw4,tw5⟩:=hF.par rb.2.1 rb.2.2 pw
 -- the cycle
 obtain⟨l0,hl0⟩:=awv.dp;obtain⟨l0',hl0',hhl⟩:∃l',DP es pa v (Aj es b) l'/\h∈l'++[b]:=by
  rcases hbh with rfl|⟨h1,h2⟩
  .rw[hv];exact⟨[],.nil,by simp⟩
  obtain⟨m,hm⟩:=h2.dp;have d0:DP es pa v (AD es h) [h]:=by
   have:=DP.snoc (es:=es) (pa:=pa) (u:=v) (x:=AD es h) (l:=[]) (by rw[h1.2];exact hh.1.1) (by rw[h1.2,hv];exact .nil);rw[h1.2] at this;exact this
  exact⟨_,d0.app hm,by simp⟩
 have hl1:=hl0.app hl0';obtain⟨hS,hnd⟩:=loop_sc hF hb hl1;obtain⟨t1,hw1,ht1,hm1⟩:=hl0.wlk hF rh.1.1 rh.1.2 nwv;have hml0:=hl0.mem hF rh.1.1 rh.1.2;have T1:=hml0 t1 hm1;have sub0:∀a,a∈l0->a∈l0++l0'++[b]:=fun a ha=>by simp[ha]
 have hbm:b∈l0++l0'++[b]:=by simp
 have hhm:h∈l0++l0'++[b]:=by
  rw[A1L];exact A2N _ hhl
 have hpm:pa v∈l0:=hw1.vh.2.2.2.1;obtain⟨t1',hw1',ht1',_⟩:=hl1.wlk hF rb.1.1 rb.1.2 (fun e=>by rw[e] at hab;omega);have hbx:0<=pa (Aj es b):=(ab.up (fun e=>by rw[e] at hab;omega)).1;have hwl:NK es t1' b (l0++l0'++[b]):=hw1'.snoc hb.1.1 (by rw[(hF.par rb.1.1 rb.1.2 hbx).2.1]);have hev:Evn es (GL (l0++l0'++[b])):=fun y=>by
  have:=UE (v:=y) hF.val hwl (hS.ed hnd);unfold Ld at this;rw[this,ht1'];split<;>omega
 obtain⟨aft,hcol⟩:=hM.col _ hev;have onC:∀a,a∈l0++l0'++[b]->GL (l0++l0'++[b]) (a / 2)=true:=fun a ha=>Db.2 ⟨a,ha,rfl⟩
 -- C meets the way from w1 to x1 ZZ
 have hpath:∀a,a∈l0++l0'++[b]->(BJ es pa (AD es b) (Aj es a)/\BJ es pa (Aj es a) (Aj es b))/\BJ es pa (AD es b) (AD es a)/\BJ es pa (AD es a) (Aj es b):=fun a ha=>by
  rcases A1C.1 ha with ha|ha
  .obtain⟨q1,q2,q3⟩:=hl1.mem hF rb.1.1 rb.1.2 a ha;have q4:=(hF.tree q1).2;exact⟨⟨q2,q3.trans q4⟩,q4.trans q2,q3⟩
  simp at ha;subst ha;exact⟨⟨ab,.refl⟩,.refl,ab⟩
 have hedge:∀y,VH es y->GL (l0++l0'++[b]) (y / 2)=true->(BJ es pa (AD es b) (Aj es y)/\BJ es pa (Aj es y) (Aj es b))/\BJ es pa (AD es b) (AD es y)/\BJ es pa (AD es y) (Aj es b):=fun y hy hC=>by
  obtain⟨a,ha,e⟩:=Db.1 hC;rcases MN e.symm with rfl|rfl
  .exact hpath _ ha
  have:=hpath a ha;rw[BL (hS.vh a ha),Ef (hS.vh a ha)];exact⟨this.2,this.1⟩
 -- along C
 have k1:aft (pa v)=aft t1:=hcol.along hR hw1 (fun a ha=>onC a (sub0 a ha)) fun x k hx hk hj=>hS.at (sub0 x (List.dropLast_subset _ hx)) (sub0 k hk) hj;obtain⟨c1,c2⟩:=hS.at (sub0 _ hpm) hhm (by rw[hv,tv2]);rw[tv2] at c2;have k2:=hcol.two_ne hR tv1.1.1.tw hh.1 (v:=v) (by rw[BL tv1.1.1,tv2]) hv c1 c2;have k3:=hcol.fl1 tv1.1.1 (onC _ (sub0 _ hpm));have k4:aft h=aft t1:=by rw[k2,k3,k1];simp
 have tt:∀k,tw k / 2=k / 2:=fun k=>by unfold tw;split<;>omega
 have lp:∀{y},VH es y->Aj es y≠AD es y:=fun{y} hy e=>by
  obtain⟨e',a,he',q⟩:=Cq hy.1 hy.2;have:=(hF.val.ok e' a he').lt;omega
 have nk:k≠tw (pa v):=fun e=>by
  have:=(hF.orn_ne hk tv1.1).1 (by rw[e,tt]);rw[<-this] at tv2;exact lp hk.1 (by rw[hkv,tv2])
 have arc1:=hcol.arc hR hh.1 tv1.1.1.tw hk.1 hv (by rw[BL tv1.1.1,tv2]) hkv (Ne.symm c1) (Ne.symm hne) nk (fun y hy hyv=>by rw[c2 y hy hyv];exact or_comm);obtain⟨d1,d2⟩:=hS.at hbm (sub0 _ hm1) ht1;have np1:tw (pa (AD es b))≠t1:=fun e=>by
  have:=(hF.orn_ne T1.1.1 tw1.1).1 (by rw[<-e,tt]);rw[<-this] at tw2;exact lp T1.1.1.1 (by rw[ht1,tw2])
 have np2:tw (pa (AD es b))≠tw b:=fun e=>by
  have e2:=GZ e;exact hb.2 e2
 have arc2:=hcol.arc hR T1.1.1.1 hb.1.1.tw tw1.1.1.tw (v:=AD es b) ht1 (BL hb.1.1) (by rw[BL tw1.1.1,tw2]) (Ne.symm d1) np1 np2 (fun y hy hyv=>by rw[d2 y hy hyv];exact or_comm)
 -- the way beside C
 obtain⟨m,hm,hmo⟩:∃m,NK es k c m/\∀x,x∈m->¬(BJ es pa (AD es b) (AD es x)/\BJ es pa (AD es x) (Aj es b)):=by
  have hco:¬(BJ es pa (AD es b) (AD es c)/\BJ es pa (AD es c) (Aj es b)):=fun q=>by
   rcases(q.1.le hF rc.2.1 rc.2.2).2 with e|e
   .exact nww e.symm
   omega
  rcases hck with rfl|⟨q1,q2⟩
  .exact⟨[c],.one hc.1.1,fun x hx=>by simp at hx;subst hx;exact hco⟩
  have hsib:¬BJ es pa (AD es k) (Aj es b):=fun q=>by
   have t2:=(hF.tree q1).1;rcases hbh with rfl|⟨r1,r2⟩
   .rw[hkv] at t2;rw[hv] at q;have:=(q.le hF rh.1.1 rh.1.2).2;rcases this with e|e
    .rw[e] at t2;omega
    omega
   have t3:=(hF.tree r1).1;rw[hv] at t3;rw[hkv] at t2;have:=r2.same hF q rb.1.1 rb.1.2 (by rw[t3,t2]);exact hne (by rw[<-r1.2,this,q1.2])
  obtain⟨m,hm⟩:=q2.dp;have hmm:=hm.mem hF rc.1.1 rc.1.2;have hall:∀x,x∈k::m->BJ es pa (AD es k) (AD es x):=fun x hx=>by
   rcases A1H.1 hx with rfl|hx
   .exact .refl
   obtain⟨z1,z2,_⟩:=hmm x hx;exact(hF.tree z1).2.trans z2
  have hwk:NK es k c (k::(m++[c])):=by
   by_cases e:AD es k=Aj es c
   .have:m=[]:=hm.self hF rc.1.1 rc.1.2 e;subst this;exact .cons hk.1 e.symm (.one hc.1.1)
   obtain⟨y,y1,y2,_⟩:=hm.wlk hF rc.1.1 rc.1.2 e;have hp:=(q2.up e).1;exact .cons hk.1 y2 (y1.snoc hc.1.1 (by rw[(hF.par rc.1.1 rc.1.2 hp).2.1]))
  refine⟨_,hwk,fun x hx q=>?_⟩;rcases A1H.1 hx with rfl|hx
  .exact hsib q.2
  rcases A1C.1 hx with hx|hx
  .exact hsib (q.2.trans (hall x (by simp[hx])))
  simp at hx;subst hx;exact hco q
 obtain⟨l3,hl3⟩:=aww.dp;obtain⟨t3,hw3,ht3,_⟩:=hl3.wlk hF rb.2.1 rb.2.2 nww;have hml3:=hl3.mem hF rb.2.1 rb.2.2;have fr3:∀x,x∈l3->¬BJ es pa (AD es b) (Aj es x):=fun x hx q=>by
  obtain⟨z1,_,z3⟩:=hml3 x hx;have r:=hF.rng z1.1.1;have t:=(hF.tree z1).1;have a1:=(q.le hF r.1.1 r.1.2).2;have a2:=(z3.le hF rb.2.1 rb.2.2).2;rcases a1 with e1|e1<;>rcases a2 with e2|e2
  .rw[e2,e1] at t;omega
  .rw[<-e1] at t;omega
  .rw[e2] at t;omega
  omega
 have hoff:=hcol.off hR (hm.app hw3 ht3) (fun x hx=>by
  cases e:GL (l0++l0'++[b]) (x / 2) with
  | false=>rfl
  | true=>
   rcases A1C.1 hx with hx|hx
   .exact absurd (hedge x (hm.vh.2.2.2.2 x hx) e).2 (hmo x hx)
   exact absurd (hedge x (hml3 x hx).1.1.1 e).1.1 (fr3 x hx)) (fun x hx y hy hyx=>by
  cases e:GL (l0++l0'++[b]) (y / 2) with
  | false=>rfl
  | true=>
   have hq:=(hedge y hy e).1;rw[hyx] at hq;have hne3:l3≠[]:=fun e=>by rw[e] at hw3;cases hw3
   rw[List.dropLast_append_of_ne_nil hne3] at hx;rcases A1C.1 hx with hx|hx
   .exact absurd hq (hmo x hx)
   exfalso;obtain⟨l,rfl,hd⟩:=hl3.last nww;rw[List.dropLast_concat] at hx;obtain⟨z1,z2,z3⟩:=hd.mem hF tw4 tw5 x hx;have a2:=(z3.le hF tw4 tw5);have a1:=(hq.1.le hF a2.1.1 a2.1.2).2;rcases a1 with e1|e1<;>rcases a2.2 with e2|e2
   .rw[<-e2,<-e1] at tw3;omega
   .rw[<-e1] at e2;omega
   .rw[e2] at e1;omega
   omega);have key:MT (pos rot es t1) (pos rot es (tw (pa (AD es b)))) (pos rot es (tw b))↔MT (pos rot es h) (pos rot es k) (pos rot es (tw (pa v))):=by
  rw[<-arc1,<-arc2,hoff,k4]
 refine⟨pv,?_⟩;rw[Vt (a:=pos rot es (tw (pa v))),<-key];unfold NX;rw[decide_eq_true_eq];constructor
 .rintro⟨t,T,ht,hta,hcy⟩;have T2:=(hF.tree T).1;have T3:=(hF.tree T1.1).1;rw[ht] at T2;rw[ht1] at T3;have T1x:BJ es pa (AD es t1) (Aj es b):=avb.trans T1.2.2;have:=hta.same hF T1x rb.1.1 rb.1.2 (by rw[T2,T3]);have e:t=t1:=by rw[<-T.2,this,T1.1.2]
  rw[<-e];exact Sk.1 hcy
 intro hcy;exact⟨t1,T1.1,ht1,avb.trans T1.2.2,Sk.2 hcy⟩
theorem pm_con(hF:CD es pa he oi N)(hM:PM es rot):VM es pa he oi (NX es pa oi rot):=by
 intro h k hh hk hne hv;refine⟨fun b b' hb hb'=>?_,fun b b' hb hb'=>?_⟩
 .have h1:=(Jw hF hM hh hk hne rfl hv.symm hb).2;have h2:=(Jw hF hM hh hk hne rfl hv.symm hb').2;have:=h1.trans h2.symm;cases e1:NX es pa oi rot b<;>cases e2:NX es pa oi rot b'<;>simp[e1,e2] at this ⊢
 obtain⟨pv,h1⟩:=Jw hF hM hh hk hne rfl hv.symm hb;have h2:=(Jw hF hM hk hh (Ne.symm hne) hv.symm rfl hb').2;have rh:=hF.rng hh.1;obtain⟨tv1,tv2,tv3,tv4,tv5⟩:=hF.par rh.1.1 rh.1.2 pv;have tt:∀k,tw k / 2=k / 2:=fun k=>by unfold tw;split<;>omega
 have lp:∀{y},VH es y->Aj es y≠AD es y:=fun{y} hy e=>by
  obtain⟨e',a,he',q⟩:=Cq hy.1 hy.2;have:=(hF.val.ok e' a he').lt;omega
 have nn:∀{y},DS es oi y->Aj es y=Aj es h->tw (pa (Aj es h))≠y:=fun{y} hy hyv e=>by
  have:=(hF.orn_ne hy tv1.1).1 (by rw[<-e,tt]);rw[<-this] at tv2;exact lp hy.1 (by rw[hyv,tv2])
 have fp:Aj es (tw (pa (Aj es h)))=Aj es h:=by rw[BL tv1.1.1,tv2]
 have n1:=hM.rg.pos_ne tv1.1.1.tw hh.1 fp rfl (nn hh rfl);have n2:=hM.rg.pos_ne tv1.1.1.tw hk.1 fp hv.symm (nn hk hv.symm);have n3:=hM.rg.pos_ne hh.1 hk.1 rfl hv.symm hne;have:=Sj n1 n3 n2;rw[this,<-h1] at h2;intro e;rw[<-e] at h2;cases e1:NX es pa oi rot b<;>simp[e1] at h2
end
end
theorem YO{N:Int}{es cs:List Pr}{pl b:Bool}{ls:List (List Int)}(h:Ie N es pl ls cs=0)(hs:Uw N es b):pl=b:=by
 unfold Ie at h;split at h
 .simp at h
 rename_i hV;have hV:BX N es:=A3o.1 hV;split at h
 .simp at h
 rename_i hT;have hT:FA pl ls cs:=A3o.1 hT;obtain⟨n,rfl⟩:=A1n hV.lo;cases pl
 .cases b
  .rfl
  exfalso;rw[if_neg (by simp)] at h;split at h
  .simp at h
  rename_i hsub;have hsub:∀c,c∈cs->c∈es:=A3o.1 hsub;split at h
  .simp at h
  rename_i hk;have hk:HA (n:Int).toNat cs:=A3o.1 hk;obtain⟨pa,he,oi,hF,s,hc⟩:=hs.1 rfl;obtain⟨rot,hM⟩:=con_pm hF hc;have hE:FK cs:=by
   have:=hT.1;unfold IE at this;rw[if_neg (by simp)] at this;exact this.2
  exact kura_pm hV (OV hV hE hsub) hsub (by simpa using hk) hM
 cases b
 .exfalso;rw[if_pos rfl] at h;split at h
  .simp at h
  rename_i hok;have hok:DD n es ls:=A3o.1 hok;split at h
  .simp at h
  rename_i hfl;have hfl:GS (n:Int).toNat es ls:=A3o.1 hfl;have hfl:GS n es ls:=by simpa using hfl
  rcases hs.2 rfl with⟨h1,h2⟩|⟨pa,he,oi,hF,hno⟩
  .have:=WB hok hfl (by omega);omega
  obtain⟨rot,hM⟩:=WC hok hfl hF;exact hno ⟨_,pm_con hF hM⟩
 rfl
theorem ZH{N:Int}{es cs:List Pr}{pl:Bool}{ls:List (List Int)}(h:¬BX N es):Ie N es pl ls cs=1:=by unfold Ie;rw[if_pos h]
theorem Honest_calls{N:Int}{es cs ds:List Pr}{pl pm:Bool}{ls ms:List (List Int)}{va v u v' u':Value}{w:World}(hg:DX w va es)(hv:IM w v ls)(hu:DX w u cs)(hv':IM w v' ms)(hu':DX w u' ds)(hp:Qh w)(hG:EM w)
 (hn:ls.length<=1000000000)(hs:∀l,l∈ls->l.length<=2097152)(hn':ms.length<=1000000000)(hs':∀l,l∈ms->l.length<=2097152):
  Calls A1c 3 #[.agg #[Iv N,va],.agg #[.bool pl,v,u],.agg #[.bool pm,v',u']] w (Ret w [] fun r M=>r= .bool true):=by
 have hs9:∀l,l∈ls->l.length<=1000000000:=fun l hl=>by have:=hs l hl;omega
 have hs9':∀l,l∈ms->l.length<=1000000000:=fun l hl=>by have:=hs' l hl;omega
 have hel:es.length<=8796093021952:=by obtain⟨_,_,_,_,_,_,h⟩:=hg;exact h
 have hg0:=hg;have hv0:=hv;have hu0:=hu;have hv0':=hv';have hu0':=hu';obtain⟨A,cap,rfl,_⟩:=hg0;obtain⟨Al,cl,rfl,_⟩:=hv0;obtain⟨Ac,cc,rfl,_⟩:=hu0;obtain⟨Bl,bl,rfl,_⟩:=hv0';obtain⟨Bc,bc,rfl,_⟩:=hu0';refine BO (K:=[]) (args:=[_,_,_]) (L:=[]) Tryz.func3 J Tryz.ntmps3 J (B8 _ _)<|Zs ?_;refine ZB fun g3=>?_;refine ZB fun g4=>?_;refine ZB fun g5=>?_;refine Za<|Zx<|Ai<|Zs ?_;refine AL J J (AH en4 J J J (fun w hw=>QC (hp.keep0 hw))) ?_;rintro _ rfl;refine Zz [1]<|Zx ?_;refine Zd ?_ ?_<;>intro c1
 .simp at c1
 refine Ao<|Aa<|Ai ?_;refine Fv 4414144141 12 ?_;refine Bp J J J J (A4 (vs:=[_,_]) J J IL G2 J (AW J)) ?_;refine CQ J J J J (AH en6 J J J (fun w hw=>I3 (hg.keep0 hw))) ?_;rintro _ _ ⟨A31,c31,rfl,rfl⟩;refine Bp J J J J (A4 (vs:=[_,_,_]) J J ag27 XG J (AW J)) ?_;refine CQ J J J J (AH en7 J J J (fun w hw=>Me (hv.keep0 hw) (hu.keep0 hw) hn hs9)) ?_;rintro _ _ ⟨Av,lv,cv,Au,lu,cu,c33,rfl,rfl,hcc⟩;let ca:=Bf (.slice A31 es.length c31) 39 2 (Cj es);let cb:=AC g5 27 #[.bool pm,.slice Bl ms.length bl,.slice Bc ds.length bc];let cd:=AC g4 27 #[.bool pl,.slice Al ls.length cl,.slice Ac cs.length cc];let ce:=AC g3 24 #[Iv N,.slice A es.length cap];refine HB (V:=[c33,ca,cb,cd,ce]) J J J J (by kernel_rfl) (AH en5 J J J (fun w hw=>Fq (FG hw 1 J hel) (hcc _ _ _ _ 0 hw J).1 (hcc _ _ _ _ 0 hw J).2 (hp.keep0 hw) (up25 hs))) ?_;rintro _ rfl;refine Bp J J J J (A4 (vs:=[_,_]) J J IL G2 J (AW J)) ?_;refine CQ J J J J (AH en6 J J J (fun w hw=>I3 (hg.keep0 hw))) ?_;rintro _ _ ⟨A36,c36,rfl,rfl⟩;refine Bp J J J J (A4 (vs:=[_,_,_]) J J ag27 XG J (AW J)) ?_;refine CQ J J J J (AH en7 J J J (fun w hw=>Me (hv'.keep0 hw) (hu'.keep0 hw) hn' hs9')) ?_;rintro _ _ ⟨Bv,mv,dv,Bu,mu,du,c38,rfl,rfl,hcc'⟩;refine HB (V:=[c38,Bf (.slice A36 es.length c36) 39 2 (Cj es),c33,ca,cb,cd,ce]) J J J J (by kernel_rfl) (AH en5 J J J (fun w hw=>Fq (FG hw 1 J hel) (hcc' _ _ _ _ 0 hw J).1 (hcc' _ _ _ _ 0 hw J).2 (hp.keep0 hw) (up25 hs'))) ?_;rintro _ rfl;refine Yz [2] ?_;refine AF J ?_;simp only[zq,zr];refine Aa<|Zs ?_;refine CR [_,_] ?_;refine Bk J J (AH en6 J J J (fun w hw=>I3 (hg.keep0 hw))) ?_;rintro _ _ ⟨A25,c25,rfl,rfl⟩;refine Bk J J (AH en8 J J J (fun w hw=>Pn (FG hw 0 J hel) (hG.keep0 hw))) ?_;rintro _ _ ⟨b,e,rfl,rfl,hC⟩;refine Zz [5]<|Zx<|Ai<|Zs ?_;refine Zz [2]<|Zx ?_;refine Zd ?_ ?_<;>intro c5
 .rcases hC with⟨hV,rfl⟩|⟨_,rfl,_⟩;rotate_left 1
  .simp at c5
  rw[ZH hV,ZH hV];refine Zs<|Zz [3] ?_;refine AM 33 J (fun k6_2=>?_) (fun k6_2=>?_)
  .refine Zz [4]<|Zx<|At<|Ad ?_;refine DN 6 ?_;refine Zh ?_
   simp_all
  refine Zz [4]<|Zx<|At<|Ad ?_;refine DN 6 ?_;refine Zh ?_
  simp_all
 rcases hC with⟨_,rfl⟩|⟨hV,rfl,hL⟩
 .simp at c5
 have h1:=fun h=>YO (es:=es) (cs:=cs) (pl:=pl) (ls:=ls) h hL;have h2:=fun h=>YO (es:=es) (cs:=ds) (pl:=pm) (ls:=ms) h hL;generalize Ie N es pl ls cs=a1 at h1 ⊢;generalize Ie N es pm ms ds=a2 at h2 ⊢;refine Ao<|Aa<|Zs<|Zz [3] ?_;refine AM 39 J (fun k7_2=>?_) (fun k7_2=>?_)
 .refine Zz [9] ?_;refine AM 48 J (fun k7_11=>?_) (fun k7_11=>?_)
  .refine Zz [10] ?_;refine AM 58 J (fun k7_21=>?_) (fun k7_21=>?_)
   .refine Zz [12]<|Zx<|At ?_;refine DN 6 ?_;refine Zh ?_
    simp_all
   refine Zz [4] ?_;refine AM 62 J (fun k7_25=>?_) (fun k7_25=>?_)
   .refine Zz [8]<|Zx<|At ?_;refine DN 6 ?_;refine Zh ?_
    simp_all
   refine Zz [1] ?_;refine Zu (AG J J Um (fun w hw=>EI (hw.holds (cd) (A1h (i:=6) J)) J)) ?_;refine Zz [1] ?_;refine Zu (AG J J Um (fun w hw=>EI (hw.holds (cb) (A1h (i:=5) J)) J)) ?_;refine Zo (Hb J J J Tryz.underlying4) ?_;refine Zz [3]<|Zx<|At ?_;refine DN 6 ?_;refine Zh ?_
   simp_all
  refine Zz [1] ?_;refine Zu (AG J J Um (fun w hw=>EI (hw.holds (cb) (A1h (i:=5) J)) J)) ?_;refine Zm ?_;refine Zo (Hb J J J Tryz.underlying4) ?_;refine Zz [3] ?_;refine AM 55 J (fun k7_18=>?_) (fun k7_18=>?_)
  .refine Zz [3] ?_;refine AM 58 J (fun k7_21=>?_) (fun k7_21=>?_)
   .refine Zz [12]<|Zx<|At ?_;refine DN 6 ?_;refine Zh ?_
    simp_all
   refine Zz [4] ?_;refine AM 62 J (fun k7_25=>?_) (fun k7_25=>?_)
   .refine Zz [8]<|Zx<|At ?_;refine DN 6 ?_;refine Zh ?_
    simp_all
   refine Zz [1] ?_;refine Zu (AG J J Um (fun w hw=>EI (hw.holds (cd) (A1h (i:=6) J)) J)) ?_;refine Zz [1] ?_;refine Zu (AG J J Um (fun w hw=>EI (hw.holds (cb) (A1h (i:=5) J)) J)) ?_;refine Zo (Hb J J J Tryz.underlying4) ?_;refine Zz [3]<|Zx<|At ?_;refine DN 6 ?_;refine Zh ?_
   simp_all
  refine Zz [15]<|Zx<|At ?_;refine DN 6 ?_;refine Zh ?_
  simp_all
 refine Zz [1] ?_;refine Zu (AG J J Um (fun w hw=>EI (hw.holds (cd) (A1h (i:=6) J)) J)) ?_;refine Zm ?_;refine Zo (Hb J J J Tryz.underlying4) ?_;refine Zz [2] ?_;refine AM 45 J (fun k7_8=>?_) (fun k7_8=>?_)
 .refine Zz [3] ?_;refine AM 48 J (fun k7_11=>?_) (fun k7_11=>?_)
  .refine Zz [10] ?_;refine AM 58 J (fun k7_21=>?_) (fun k7_21=>?_)
   .refine Zz [12]<|Zx<|At ?_;refine DN 6 ?_;refine Zh ?_
    simp_all
   refine Zz [4] ?_;refine AM 62 J (fun k7_25=>?_) (fun k7_25=>?_)
   .refine Zz [8]<|Zx<|At ?_;refine DN 6 ?_;refine Zh ?_
    simp_all
   refine Zz [1] ?_;refine Zu (AG J J Um (fun w hw=>EI (hw.holds (cd) (A1h (i:=6) J)) J)) ?_;refine Zz [1] ?_;refine Zu (AG J J Um (fun w hw=>EI (hw.holds (cb) (A1h (i:=5) J)) J)) ?_;refine Zo (Hb J J J Tryz.underlying4) ?_;refine Zz [3]<|Zx<|At ?_;refine DN 6 ?_;refine Zh ?_
   simp_all
  refine Zz [1] ?_;refine Zu (AG J J Um (fun w hw=>EI (hw.holds (cb) (A1h (i:=5) J)) J)) ?_;refine Zm ?_;refine Zo (Hb J J J Tryz.underlying4) ?_;refine Zz [3] ?_;refine AM 55 J (fun k7_18=>?_) (fun k7_18=>?_)
  .refine Zz [3] ?_;refine AM 58 J (fun k7_21=>?_) (fun k7_21=>?_)
   .refine Zz [12]<|Zx<|At ?_;refine DN 6 ?_;refine Zh ?_
    simp_all
   refine Zz [4] ?_;refine AM 62 J (fun k7_25=>?_) (fun k7_25=>?_)
   .refine Zz [8]<|Zx<|At ?_;refine DN 6 ?_;refine Zh ?_
    simp_all
   refine Zz [1] ?_;refine Zu (AG J J Um (fun w hw=>EI (hw.holds (cd) (A1h (i:=6) J)) J)) ?_;refine Zz [1] ?_;refine Zu (AG J J Um (fun w hw=>EI (hw.holds (cb) (A1h (i:=5) J)) J)) ?_;refine Zo (Hb J J J Tryz.underlying4) ?_;refine Zz [3]<|Zx<|At ?_;refine DN 6 ?_;refine Zh ?_
   simp_all
  refine Zz [15]<|Zx<|At ?_;refine DN 6 ?_;refine Zh ?_
  simp_all
 refine Zz [25]<|Zx<|At ?_;refine DN 6 ?_;refine Zh ?_
 simp_all
end Go.Fl
namespace Go.Fl
open Go Go.ChangeShapes Go.WideShapes Go.Deep
section
variable{H:Type}{enc:TypeId×Value->H}{P:Program}{W:World}{held:Bool}
def ON(P:Program)(t:TypeId)(d:DataW H):Prop:=∀n∈d.weights P t,n<=reachBytes
theorem A0T{t e:TypeId}{f0 f1:Field}{n:Nat}{v:Value}{y:DataW H×List MemPlace}(ht:P.underlying t=some (.slice e))(he:P.underlying e=some (.struct #[f0,f1]))(ce:P.cellsOf e=2)(o0:f0.offset=0)(o1:f1.offset=1)
 (c0:P.cellsOf f0.type=1)(c1:P.cellsOf f1.type=1)(i0:P.underlying f0.type=some (.int .i64))(i1:P.underlying f1.type=some (.int .i64))(hb:P.bytesOf e=16)
 (h:DataW.trod enc P W 0 (fun _=>true) held n t [v]=some y)(hw:ON P t y.1):∃es,DX W v es/\∀x∈es,(Lit.int .i64 x.1).wf=true/\(Lit.int .i64 x.2).wf=true:=by
 rcases open_slice_pairs ht he ce o0 o1 c0 c1 h with⟨h1,h2⟩|⟨a,len,cap,m,n',V0,V1,D0,D1,P0,P1,h1,h2,h3,h4,h5,h6,h7⟩
 .cases h1;exact⟨[],⟨none,0,rfl,fun j u hj=>by simp[Cj] at hj,A1F _,by omega,by simp⟩,by simp⟩
 cases h1;simp only[if_true] at h5;subst h5 h6;have hwt:(len+(m-len))*16<=reachBytes:=hw _ (by simp[DataW.weights,ht,hb]);have hr:reachBytes=140737488351232:=by decide
 simp only[maxLen] at h4;have hV:∀i,i<len->∃q:Pr,W.cell? (a.add (i*2))=some (.int .i64 q.1)/\W.cell? (a.add (i*2+1))=some (.int .i64 q.2)/\(Lit.int .i64 q.1).wf=true/\(Lit.int .i64 q.2).wf=true:=by
  intro i hi;obtain⟨k0,k1,k2,k3⟩:=h7 i (by omega);obtain⟨x,hx,_,hxw⟩:=DataW.trod_int i0 k2;obtain⟨z,hz,_,hzw⟩:=DataW.trod_int i1 k3;rw[(List.cons.inj hx).1] at k0;rw[(List.cons.inj hz).1] at k1;exact⟨(x,z),k0,k1,hxw,hzw⟩
 obtain⟨q,hq⟩:=choose_lt hV;have hl:((List.range len).map q).length=len:=by simp
 have hg:∀(es:List Pr) (i:Nat) (u:Value),(Cj es)[i]? =some u->∃p:Pr,es[i / 2]? =some p/\u= .int .i64 (if i%2=0 then p.1 else p.2):=by
  intro es
  induction es with
  | nil=>intro i u h;simp[Cj] at h
  | cons e r ih=>
   intro i u h
   match i,h with
   | 0,h=>simp[Cj] at h;exact⟨e,by simp,by simp[h]⟩
   | 1,h=>simp[Cj] at h;exact⟨e,by simp,by simp[h]⟩
   | i+2,h=>
    simp only[Cj,A2P] at h;obtain⟨p,hp,hu⟩:=ih i u h;refine⟨p,by rw[show(i+2) / 2=i / 2+1 by omega,A2P];exact hp,by rw[hu];congr 1;rw[show(i+2)%2=i%2 by omega]⟩
 refine⟨(List.range len).map q,⟨some a,m,by rw[hl],fun j u hj=>⟨a,rfl,?_⟩,by rw[hl];omega,by omega,by rw[hl];omega⟩,fun x hx=>?_⟩
 .obtain⟨p,hp,hu⟩:=hg _ _ _ hj;have hj2:=(A1e.1 hp).1;simp only[hl] at hj2;obtain⟨g0,g1,_,_⟩:=hq (j / 2) hj2;rw[A1U,List.getElem?_range hj2] at hp;simp only[A3M,Option.some.injEq] at hp;subst hp hu;by_cases hm:j%2=0
  .rw[if_pos hm,<-g0];congr 2;omega
  rw[if_neg hm,<-g1];congr 2;omega
 simp only[A1G,A1r] at hx;obtain⟨i,hi,rfl⟩:=hx;exact(hq i hi).2.2
theorem On{t:TypeId}{fs:Array Field}{parts:List (DataW H)}(ht:P.underlying t=some (.struct fs))(h:ON P t (.agg parts)):∀n∈DataW.weightsEach P (fs.toList.map (·.type)) parts,n<=reachBytes:=by
 intro n hn;exact h n (by simp only[DataW.weights,ht];exact hn)
theorem light_cons{t:TypeId}{ts:List TypeId}{d:DataW H}{r:List (DataW H)}(h:∀n∈DataW.weightsEach P (t::ts) (d::r),n<=reachBytes):ON P t d/\∀n∈DataW.weightsEach P ts r,n<=reachBytes:=
 ⟨fun n hn=>h n (by simp only[DataW.weightsEach,A1C];exact .inl hn),fun n hn=>h n (by simp only[DataW.weightsEach,A1C];exact .inr hn)⟩
theorem light_all{ts:List TypeId}{ds:List (DataW H)}(h:(DataW.weightsEach P ts ds).all (·<=reachBytes)=true):∀n∈DataW.weightsEach P ts ds,n<=reachBytes:=
 fun n hn=>by simpa using A2c.1 h n hn
theorem own_belowO{w w':World}{L:List Chunk}(h:AR w [] w' L):RowKit.Below w.heap.size w w':=⟨h.os,h.tape,h.output,h.size,fun k hk=>h.old k hk (by simp)⟩
end
end Go.Fl
namespace Go.Fl
open Go Go.Proofs Go.ChangeShapes Go.WideShapes Go.Deep Go.Joins
open Go.Proofs.YtdcddjeifaeiaaaGreatDoor.Rows
section
variable{H:Type}{enc:TypeId×Value->H}{W:World}
theorem bulk_mem{ds:List (DataW H)}{d:DataW H}(h:d∈ds):uptoBulk d<=uptoBulkAll ds:=by
 induction ds with
 | nil=>cases h
 | cons a r ih=>
  rw[uptoBulkAll];rcases A1H.1 h with rfl|h
  .omega
  have:=ih h;omega
theorem ZP(d:DataW H):1<=uptoBulk d:=by
 cases d with
 | lit l=>cases l<;>simp[uptoBulk]
 | _=>simp[uptoBulk]
theorem Sy(ds:List (DataW H)):ds.length<=uptoBulkAll ds:=by
 induction ds with
 | nil=>simp[uptoBulkAll]
 | cons a r ih=>rw[uptoBulkAll,A2a];have:=ZP a;omega
theorem TF{n B:Nat}{v:Value}{y:DataW H×List MemPlace}(h:DataW.trod enc A1c W 0 (fun _=>true) true n 37 [v]=some y)(hb:uptoBulk y.1<=B)(hB:B<=1048576):∃xs,FD W v xs/\xs.length<=B:=by
 rcases open_ints A1x Tryz.underlying3 (by kernel_rfl) h with⟨h1,h2⟩|⟨a,len,cap,zs,h1,h2,h3,h4,h5,h6,h7,h8⟩
 .cases h1;exact⟨[],⟨none,0,J,fun j u hj=>by simp[AA] at hj,A1F _,by omega,by simp⟩,by simp⟩
 cases h1;simp only[if_true] at h5;subst h6;have hl:=Sy (lits (H:=H) .i64 (zs.take len));have hlen:(zs.take len).length=len:=by simp;omega
 have hll:(lits (H:=H) .i64 (zs.take len)).length=len:=by rw[<-hlen];simp[lits]
 rw[uptoBulk] at hb;simp only[maxLen] at h4;refine⟨zs.take len,⟨some a,cap,by rw[hlen],fun j u hj=>⟨a,J,?_⟩,by omega,by omega,by omega⟩,by omega⟩;have hj2:=(A1e.1 hj).1;simp only[ints_length,hlen] at hj2;have h9:=h7 j (by omega);rw[h9,<-hj];simp[AA,A2j,hj2,A1d (show j<zs.length by omega)]
theorem TE{n B:Nat}{v:Value}{y:DataW H×List MemPlace}(h:DataW.trod enc A1c W 0 (fun _=>true) true n 25 [v]=some y)(hb:uptoBulk y.1<=B)(hB:B<=1048576):
  ∃ls,IM W v ls/\ls.length<=B/\∀l,l∈ls->l.length<=B:=by
 rcases open_slice A1B h with⟨h1,h2⟩|⟨a,len,cap,m,k,D,Pl,h1,h2,h3,h4,h5,h6,h7⟩
 .cases h1;exact⟨[],⟨none,0,J,fun i l hi=>by simp at hi,A1F _,by omega,by simp⟩,by simp,by simp⟩
 cases h1;simp only[if_true] at h5;subst h5 h6;simp only[maxLen] at h4;rw[uptoBulk] at hb;have hl:=Sy ((List.range len).map D);rw[A1S,A2m] at hl;have hce:A1c.cellsOf 37=1:=by kernel_rfl
 have hV:∀i,i<len->∃q:Value×List Int,W.cell? (a.add i)=some q.1/\FD W q.1 q.2/\q.2.length<=B:=by
  intro i hi;obtain⟨cs',k1,k2⟩:=h7 i (by omega);rw[hce,A3d] at k1;obtain⟨_,hlen,hcell⟩:=World.cells?_some k1
  match cs',hlen with
  | [u],_=>
   have hD:uptoBulk (D i)<=B:=by
    have:=bulk_mem (ds:=(List.range len).map D) (d:=D i) (A1G.2 ⟨i,A1r.2 hi,rfl⟩);omega
   obtain⟨xs,hx,hxl⟩:=TF (B:=B) k2 hD hB;have h0:=hcell 0 (by omega);refine⟨(u,xs),?_,hx,hxl⟩;have e:(a.add i).add 0=a.add i:=by simp[Addr.add]
   rw[e] at h0;simpa using h0
 obtain⟨q,hq⟩:=choose_lt hV;refine⟨(List.range len).map fun i=>(q i).2,⟨some a,m,by simp,fun i l hi=>?_,by simp;omega,by omega,by simp;omega⟩,by simp;omega,fun l hl=>?_⟩
 .have hi2:=(A1e.1 hi).1;simp only[A1S,A2m] at hi2;rw[A1U,List.getElem?_range hi2] at hi;simp only[A3M,Option.some.injEq] at hi;subst hi;exact⟨a,(q i).1,J,(hq i hi2).1,(hq i hi2).2.1⟩
 simp only[A1G,A1r] at hl;obtain⟨i,hi,rfl⟩:=hl;exact(hq i hi).2.2
theorem KZ{n:Nat}{v:Value}{y:DataW H×List MemPlace}(h:DataW.trod enc A1c W 0 (fun _=>true) true n 22 [v]=some y)(hw:ON A1c 22 y.1):∃es,DX W v es/\∀x∈es,(Lit.int .i64 x.1).wf=true/\(Lit.int .i64 x.2).wf=true:=
 A0T A1y Tryz.underlying39 (by kernel_rfl) rfl rfl (by kernel_rfl) (by kernel_rfl) Tryz.underlying3 Tryz.underlying3 (by kernel_rfl) h hw
theorem open_graphB{b:Nat}{v:Value}{d:DataW H}{p:List MemPlace}(hv:Value.okWide A1c W .any b 24 v)(h:DataW.Trod enc A1c W 0 (fun _=>true) true 24 v d p)(hw:ON A1c 24 d):
  ∃N va es,v= .agg #[Iv N,va]/\DX W va es/\(Lit.int .i64 N).wf=true/\∀x∈es,(Lit.int .i64 x.1).wf=true/\(Lit.int .i64 x.2).wf=true:=by
 obtain⟨v0,v1,y0,y1,n,rfl,rfl,rfl,h0,h1⟩:=open_agg2 Tryz.underlying24 (by kernel_rfl) (by kernel_rfl) hv h;obtain⟨_,w1⟩:=light_cons (On Tryz.underlying24 hw);obtain⟨w1,_⟩:=light_cons w1;obtain⟨N,hN,_,hNw⟩:=DataW.trod_int Tryz.underlying3 h0;obtain⟨es,hes,hew⟩:=KZ h1 w1;exact⟨N,v1,es,by rw[(List.cons.inj hN).1],hes,hNw,hew⟩
theorem open_cert{b:Nat}{v:Value}{d:DataW H}{p:List MemPlace}(hv:Value.okWide A1c W .any b 27 v)(h:DataW.Trod enc A1c W 0 (fun _=>true) true 27 v d p)(hw:ON A1c 27 d)(hb:uptoBulk d<=1048576):
  ∃pl ls cs v1 v2,v= .agg #[.bool pl,v1,v2]/\IM W v1 ls/\DX W v2 cs/\ls.length<=1048576/\∀l,l∈ls->l.length<=1048576:=by
 obtain⟨v0,v1,v2,y0,y1,y2,n,rfl,rfl,rfl,h0,h1,h2⟩:=open_agg3 Tryz.underlying27 (by kernel_rfl) (by kernel_rfl) hv h;obtain⟨_,w1⟩:=light_cons (On Tryz.underlying27 hw);obtain⟨_,w2⟩:=light_cons w1;obtain⟨w2,_⟩:=light_cons w2;have hb1:uptoBulk y1.1<=1048576:=by
  rw[uptoBulk] at hb;have:=bulk_mem (ds:=[y0.1,y1.1,y2.1]) (d:=y1.1) (by simp);omega
 obtain⟨pl,hp,_⟩:=DataW.trod_bool Tryz.underlying4 h0;obtain⟨ls,hls,h3,h4⟩:=TE h1 hb1 (A1F _);obtain⟨cs,hcs,_⟩:=KZ h2 w2;exact⟨pl,ls,cs,v1,v2,by rw[(List.cons.inj hp).1],hls,hcs,h3,h4⟩
theorem laidB:laidOutB A1c=true:=by kernel_rfl
theorem staysB{t:TypeId}{v:Value}{d:DataW H}{p:List MemPlace}{W':World}{L:List Chunk}(hr:A1c.readableRec t=true)(hrow:t<A1c.types.size)(h:DataW.Trod enc A1c W 0 (fun _=>true) true t v d p)
 (hO:AR W [] W' L)(hlt:∀x∈p,x.block<W.heap.size):DataW.Trod enc A1c W' 0 (fun b=>decide (b<W.heap.size)) true t v d p:=
 RowKit.Below.trod laidB hr hrow h (own_belowO hO) hlt
end
end Go.Fl
namespace Go.Fl
open Go Go.Proofs Go.ChangeShapes Go.WideShapes Go.Deep Go.Joins
open Go.Proofs.YtdcddjeifaeiaaaGreatDoor.Rows
def MD:DataW Unit:=.agg [.lit (.int .i64 (-1)),.lit (.int .i64 (-1))]
def laid4:List (String×DataW Unit):=[("math/bits.deBruijn32tab",laid_math_bits_deBruijn32tab),("math/bits.deBruijn64tab",laid_math_bits_deBruijn64tab),("internal/strconv.uint64pow10",laid_internal_strconv_uint64pow10),("tangram/lr.empty",MD)]
theorem pow_of4{W:World}(h:laidMetH A1c laid4 W):Qh W:=by
 rw[MakeChecks.laidMetH_plain _ _ _ (by kernel_rfl)] at h;obtain⟨g,t,cs,fuel,p,hg,ht,hvar,hd⟩:=Lib.laidMet.reads h (n := "internal/strconv.uint64pow10") (d:=laid_internal_strconv_uint64pow10) (by simp[laid4]);obtain rfl:=Option.some.inj ((show A1c.globalNamed "internal/strconv.uint64pow10" = some 2 by kernel_rfl).symm.trans hg);obtain rfl:=Option.some.inj ((show(A1c.globals[2]?).map (·.type)=some 290 by kernel_rfl).symm.trans ht);unfold Qh Lib.TabIs;rw[hvar,<-Lib.cells_of_tab (zs:=Lib.pow10Tab) Tryz.underlying290 Tryz.underlying254 (by kernel_rfl) (by kernel_rfl) hd]
theorem empty_of{W:World}(h:laidMetH A1c laid4 W):EM W:=by
 rw[MakeChecks.laidMetH_plain _ _ _ (by kernel_rfl)] at h;obtain⟨g,t,cs,fuel,p,hg,ht,hvar,hd⟩:=Lib.laidMet.reads h (n := "tangram/lr.empty") (d:=MD) (by simp[laid4]);obtain rfl:=Option.some.inj ((show A1c.globalNamed "tangram/lr.empty" = some 0 by kernel_rfl).symm.trans hg);obtain rfl:=Option.some.inj ((show(A1c.globals[0]?).map (·.type)=some 134 by kernel_rfl).symm.trans ht);have hcs:cs.toList=[Value.int .i64 (-1),Value.int .i64 (-1)]:=Lib.ints_of_struct (zs:=[-1,-1]) Tryz.underlying134 (fun i f hf=>by
  match i,hf with
  | 0,hf=>obtain rfl:=Option.some.inj hf;exact⟨Tryz.underlying3,rfl,by kernel_rfl⟩
  | 1,hf=>obtain rfl:=Option.some.inj hf;exact⟨Tryz.underlying3,rfl,by kernel_rfl⟩
  | i+2,hf=>simp at hf) (by kernel_rfl) hd;have:cs=#[Value.int .i64 (-1),Value.int .i64 (-1)]:=by rw[<-hcs]
 rw[this] at hvar;unfold World.var? at hvar;rw[hg] at hvar;simp only[Option.bind_some] at hvar;unfold EM;split at hvar
 .rename_i cs' t' fz' he;cases hvar;exact⟨_,_,he⟩
 cases hvar
end Go.Fl
namespace Go.Fl
open Go Go.Proofs
section
variable{H:Type}{enc:TypeId×Value->H}
theorem returnsInHanded_of_cond_laid{a:Assume}{C:Checked}{os:Os}{f:FuncId}{fn:Func}{s:OpenSpec}{k:(H:Type)->List (DataW H)->Bool}(hk:s.cond=some k){F:Stop.Interp}{conds:List PathCond}{apart fresh handsOn again:Bool}{X:World->Prop}
 (hX:∀w w':World,w.heap=w'.heap->X w->X w')
 (own:ownKnob C.prog.godebug=none)(started:os.Started)(noInit:C.prog.inits.idxOf? f=none)(hfn:C.prog.funcs[f]? =some fn)
 (witness:∃(w:World) (tape:Tape) (i:Input),w.os=os/\(w.forCall tape i).Shaped C.prog/\i.vars=[]/\Input.okWide C.prog (w.forCall tape i) .any w.heap.size f i/\
   ((s.pre enc C.prog fn conds apart (w.forCall tape i).memory i.args/\X (w.forCall tape i).memory)/\sizedMet enc C.prog fn s apart (w.forCall tape i).memory i.args)/\a.holds C.prog (lone (Frame.enter C.prog f i.args .normal) [] (w.forCall tape i)))
 (contract:∀(W:World) (base:Nat) (args:Array Value) (ds gs:List (DataW H)) (before:List MemPlace),
   (∀(j:Nat) t v,fn.params[j]? =some t->args[j]? =some v->Value.okWide C.prog W .any base t v)->
   DataW.Whole enc C.prog fn.params.toList s.vars apart W args.toList ds gs before->
   k H (ds++gs)=true->
   (DataW.weightsEach C.prog (fn.params.toList++s.bare.plain.varTypes C.prog) (ds++gs)).all (·<=reachBytes)=true->X W->
   Calls C.prog f args W fun e W'=>∃v,e= .returned v/\(s.at F).post enc C.prog fn apart fresh handsOn again W args v W'):
  ReturnsInHanded a C os f .any (fun w args=>(s.pre enc C.prog fn conds apart w args/\X w)/\sizedMet enc C.prog fn s apart w args) ((s.at F).post enc C.prog fn apart fresh handsOn again):=by
 refine returnsInHanded_of_calls own started noInit witness ?_;intro w tape i _ _ _ hok hpre hholds;obtain⟨_,_,_,fn',hfn',_,_,_,_,hval⟩:=hok;have e:fn'=fn:=Option.some.inj (hfn'.symm.trans hfn);subst e;obtain⟨ds,gs,before,hw,hc,hkk⟩:=(OpenSpec.pre_some hk conds apart _ _).1 hpre.1.1;have hw':=DataW.Whole.of_heap (w':=w.forCall tape i) (by rfl) hw;refine(contract (w.forCall tape i) w.heap.size i.args ds gs before hval hw' hkk (hpre.2.weights hw) (hX _ _ (by rfl) hpre.1.2)).mono fun e W' ⟨v,he,hp⟩=>?_;subst he;exact ChangeSpec.post_blind hp
theorem witness_laid{C:Checked}{os:Os}{f:FuncId}{fn:Func}{s:OpenSpec}{k:(H:Type)->List (DataW H)->Bool}(hk:s.cond=some k){conds:List PathCond}{apart:Bool}{X:World->Prop}(modest:Bool)(w0:World)(args:Array Value)(fuel:Nat)(hos:w0.os=os)
 (hsh:(w0.forCall (fun _ _=>0) ⟨#[],args,[]⟩).Shaped C.prog)
 (hok:Input.okWideB C.prog (w0.forCall (fun _ _=>0) ⟨#[],args,[]⟩) f ⟨#[],args,[]⟩=true)
 {x:List (DataW H)×List (DataW H)×List MemPlace}(hx:DataW.whole enc C.prog (w0.forCall (fun _ _=>0) ⟨#[],args,[]⟩).memory fn.params.toList s.vars apart args.toList fuel=some x)
 (hconds:conds.all (PathCond.test C.prog ⟨fn.params.toList,x.1,s.bare.plain.varTypes C.prog,x.2.1⟩)=true)(hkk:k H (x.1++x.2.1)=true)
 (hsz:s.bare.sizedB enc C.prog fn apart (w0.forCall (fun _ _=>0) ⟨#[],args,[]⟩).memory args fuel=true)
 (hX:X (w0.forCall (fun _ _=>0) ⟨#[],args,[]⟩).memory):
  ∃(w:World) (tape:Tape) (i:Input),w.os=os/\(w.forCall tape i).Shaped C.prog/\i.vars=[]/\Input.okWide C.prog (w.forCall tape i) .any w.heap.size f i/\
   ((s.pre enc C.prog fn conds apart (w.forCall tape i).memory i.args/\X (w.forCall tape i).memory)/\sizedMet enc C.prog fn s apart (w.forCall tape i).memory i.args)/\({ modest:=modest }:Assume).holds C.prog (lone (Frame.enter C.prog f i.args .normal) [] (w.forCall tape i)):=
 ⟨w0,fun _ _=>0,⟨#[],args,[]⟩,hos,hsh,(Input.okWide_of_okWideB (base:=0) hok).1,(Input.okWide_of_okWideB hok).2,
  ⟨⟨(OpenSpec.pre_some hk conds apart _ _).2 ⟨x.1,x.2.1,x.2.2,DataW.Whole_of_whole hx,hconds,hkk⟩,hX⟩,sizedMet_of_sizedB hsz⟩,by
  simp only[Assume.holds];exact⟨by simp,by simp,fun _=>Modest.zero,by simp,by simp⟩⟩
end
end Go.Fl
namespace Go.Proofs.YtdcddjeifaeiaaaGreatDoor.checkHonest
open Go.ChangeShapes Go.WideShapes Go.ChangeAt Go.RowKit
theorem own : ownKnob A1c.godebug = none := by kernel_rfl
theorem door_met (os : Os) (args : Array Value) : laidMetH A1c Fl.laid4 ((World.doorLaid A1c 400 os).forCall (fun _ _ => 0) ⟨#[], args, []⟩).memory :=
  laidMetH_of_parts3 (fuel := 8) (laidMet_of_run' 8 (by kernel_rfl) (by kernel_rfl)) (by kernel_rfl) (by kernel_rfl)
theorem lifted (os : Os) (started : os.Started) (H : Type) (enc : TypeId × Value → H) (F : Stop.Interp) :
    ReturnsInHanded {} Tryz.checked os 3 .any (fun w args => ((Rows.OpenSpec.upto Rows.checkHonestSpec).pre enc A1c Tryz.f3 [] false w args ∧ laidMetH A1c Fl.laid4 w) ∧ sizedMet enc A1c Tryz.f3 (Rows.OpenSpec.upto Rows.checkHonestSpec) false w args)
      (((Rows.OpenSpec.upto Rows.checkHonestSpec).at F).post enc A1c Tryz.f3 false true false false) := by
  refine Fl.returnsInHanded_of_cond_laid (C := Tryz.checked) (s := Rows.OpenSpec.upto Rows.checkHonestSpec) (k := Rows.uptoSmall) rfl (X := fun w => laidMetH A1c Fl.laid4 w) (fun _ _ hh h => h.of_heap hh) own started (by kernel_rfl) Tryz.func3
    (Fl.witness_laid (enc := enc) (C := Tryz.checked) (os := os) (s := Rows.OpenSpec.upto Rows.checkHonestSpec) (k := Rows.uptoSmall) rfl (X := fun w => laidMetH A1c Fl.laid4 w) false (World.doorLaid A1c 400 os) #[.agg #[.int .i64 0, .slice none 0 0], .agg #[.bool false, .slice none 0 0, .slice none 0 0], .agg #[.bool false, .slice none 0 0, .slice none 0 0]] 8 rfl
      (World.shaped_of_RefB (by kernel_rfl) (by kernel_rfl)) (by kernel_rfl) (x := ([.agg [.lit (.int .i64 0), .nil], .agg [.lit (.bool false), .nil, .nil], .agg [.lit (.bool false), .nil, .nil]], [], [])) (by kernel_rfl) (by kernel_rfl) (by kernel_rfl) (by kernel_rfl) (door_met os _)) ?_
  intro W base args ds gs before hval0 hW hbulk hsz0 hL
  have hsz : (DataW.weightsEach A1c (Tryz.f3.params.toList ++ (Rows.OpenSpec.upto Rows.checkHonestSpec).bare.plain.varTypes A1c) (ds ++ gs)).all (· ≤ reachBytes) = true := hsz0
  have hval : ∀ (j : Nat) t v, Tryz.f3.params[j]? = some t → args[j]? = some v → Value.okWide A1c W .any base t v := hval0
  have hp := Fl.pow_of4 hL
  have hG := Fl.empty_of hL
  have hW' := hW
  obtain ⟨p, q, hA0, hV, rfl, hfz, hnd⟩ := hW
  have hA : DataW.TrodAll enc A1c W 0 (fun _ => true) true Tryz.f3.params.toList args.toList ds p := hA0
  rw [Tryz.params3] at hA hval hsz
  obtain ⟨v0, v1, v2, d0, d1, d2, p0, p1, p2, rfl, rfl, rfl, t0, t1, t2⟩ := trodAll_three hA
  obtain ⟨rfl, rfl⟩ := trodVars_none hV
  clear hA0 hval0 hsz0
  have hbk : Rows.uptoBulkAll [d0, d1, d2] ≤ 1048576 := by simpa [Rows.uptoSmall] using hbulk
  have lt0 : ∀ x ∈ p0, x.block < W.heap.size := fun x hx => by simpa using hW'.lt x (by simp [hx])
  have lt1 : ∀ x ∈ p1, x.block < W.heap.size := fun x hx => by simpa using hW'.lt x (by simp [hx])
  have lt2 : ∀ x ∈ p2, x.block < W.heap.size := fun x hx => by simpa using hW'.lt x (by simp [hx])
  have hli := Fl.light_all hsz
  obtain ⟨w0, hli⟩ := Fl.light_cons hli
  have b0 : Rows.uptoBulk d0 ≤ 1048576 := A2G (Fl.bulk_mem (by simp)) hbk
  obtain ⟨N0, va0, es0, rfl, hg0, hN0, hE0⟩ := Fl.open_graphB (hval 0 _ _ rfl rfl) t0 w0
  obtain ⟨w1, hli⟩ := Fl.light_cons hli
  have b1 : Rows.uptoBulk d1 ≤ 1048576 := A2G (Fl.bulk_mem (by simp)) hbk
  obtain ⟨pl1, ls1, cs1, x1, y1, rfl, hv1, hu1, hn1, hs1⟩ := Fl.open_cert (hval 1 _ _ rfl rfl) t1 w1 b1
  obtain ⟨w2, hli⟩ := Fl.light_cons hli
  have b2 : Rows.uptoBulk d2 ≤ 1048576 := A2G (Fl.bulk_mem (by simp)) hbk
  obtain ⟨pl2, ls2, cs2, x2, y2, rfl, hv2, hu2, hn2, hs2⟩ := Fl.open_cert (hval 2 _ _ rfl rfl) t2 w2 b2
  refine Calls.mono (Fl.Honest_calls hg0 hv1 hu1 hv2 hu2 hp hG (by omega) (fun l hl => by have := hs1 l hl; omega) (by omega) (fun l hl => by have := hs2 l hl; omega)) ?_
  rintro _ W' ⟨v, L, rfl, rfl, hO⟩
  exact ⟨_, rfl, _, _, _, [], _, [], hW', trodAll_mk1 (shut_bool Tryz.underlying4 _), trodAll_mk3 (Fl.staysB (by kernel_rfl) (of_decide_eq_true (by kernel_rfl)) t0 hO lt0) (Fl.staysB (by kernel_rfl) (of_decide_eq_true (by kernel_rfl)) t1 hO lt1) (Fl.staysB (by kernel_rfl) (of_decide_eq_true (by kernel_rfl)) t2 hO lt2), rfl, (Fl.own_belowO hO).frame _, fun h => by cases h⟩
theorem row_holds : Rows.checkHonestUptoRow.holds Tryz.pinned (Rows.OpenSpec.upto Rows.checkHonestSpec) :=
  OpenClaim.holds_of_cond 3 Tryz.f3 rfl rfl rfl rfl rfl rfl rfl ⟨rfl, rfl, rfl, rfl, rfl⟩ rfl rfl rfl rfl rfl (by kernel_rfl) Tryz.func3 (by kernel_rfl)
    (of_decide_eq_true (by kernel_rfl)) (by unfold Func.isWrapper; first | (rw [if_pos (by decide +kernel)]; kernel_rfl) | (rw [if_neg (by decide +kernel)]; exact ⟨rfl, rfl⟩))
    (fun os started H enc _ F => lifted os started H enc F)
theorem over : Claim7.holds Tryz.pinned (.plain (Rows.OpenSpec.upto Rows.checkHonestSpec)) Rows.checkHonestUptoCard :=
  Claim7.holds_tied_plain_at .later [] [.data, .data, .data, .data] true (true, "323b5f8256dfc2f632a61f754d13d9050b4e786eb9795a5045f4afed52be3c3b") true
    row_holds (fun _ h => by cases h) (by kernel_rfl) (fun _ h => by cases h) checkHonestUpto_row_tie rfl ⟨rfl, rfl⟩ (by kernel_rfl) rfl
    (fun f fn hf hfn => by
      obtain rfl : f = 3 := Option.some.inj ((show A1c.funcNamed "tangram/tangramlaw18.CheckHonest" = some 3 by kernel_rfl).symm.trans hf) |>.symm
      obtain rfl : fn = Tryz.f3 := (Option.some.inj (Tryz.func3.symm.trans hfn)).symm
      exact ⟨by kernel_rfl, fun j t ht => by
        rw [Tryz.params3] at ht
        match j, ht with
        | 0, ht => obtain rfl : t = 24 := by simpa using ht.symm
                   exact (show A1c.wantsStandIn 24 = false by kernel_rfl)
        | 1, ht => obtain rfl : t = 27 := by simpa using ht.symm
                   exact (show A1c.wantsStandIn 27 = false by kernel_rfl)
        | 2, ht => obtain rfl : t = 27 := by simpa using ht.symm
                   exact (show A1c.wantsStandIn 27 = false by kernel_rfl)
        | j + 3, ht => simp at ht⟩)
    (by kernel_rfl)
end Go.Proofs.YtdcddjeifaeiaaaGreatDoor.checkHonest
namespace Go.Proofs.YtdcddjeifaeiaaaGreatDoor
theorem checkHonest_holds : Rows.CheckHonestUptoCardSaid := checkHonest.over
#print axioms checkHonest_holds
end Go.Proofs.YtdcddjeifaeiaaaGreatDoor
