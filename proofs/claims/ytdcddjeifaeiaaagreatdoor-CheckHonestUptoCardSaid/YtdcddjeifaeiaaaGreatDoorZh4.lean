/- Part 4 of the proof: the library of the walk and the walks, in build order; no condition. -/
import Derived.Test.YtdcddjeifaeiaaaGreatDoorZh3
set_option linter.unusedVariables false
set_option linter.unusedSimpArgs false
set_option linter.unusedSectionVars false
set_option maxRecDepth 100000
namespace Go.Fl
open Go Go.Proofs
section
open Classical
def HO(f:Int->Int)(a b:Int):Int->Int:=fun x=>if x=a then b else f x
theorem Dr{f:Int->Int}{a b:Int}:HO f a b a=b:=if_pos rfl
theorem Dq{f:Int->Int}{a b x:Int}(h:x≠a):HO f a b x=f x:=if_neg h
inductive OL (ref:Int->Int):Int->Int->Prop
 | refl {x:Int}:OL ref x x
 | step {x r:Int}:0<=ref x->OL ref (ref x) r->OL ref x r
inductive ST (ref:Int->Int) (lo:Int):Int->List Int->Prop
 | one:ST ref lo lo [lo]
 | cons {x:Int} {c:List Int}:x≠lo->0<=ref x->ST ref lo (ref x) c->ST ref lo x (x::c)
def FE(hh ref:Int->Int)(E:List Int)(i:Int×Int):Prop:=
 (E=[]/\i=(-1,-1))\/∃c,ST ref i.1 i.2 c/\c.Pairwise (fun x y=>hh y<=hh x)/\(∀x,x∈c->x∈E)/\(∀x,x∈E->∃y,y∈c/\hh y=hh x)/\(∀x,x∈E->OL ref x i.1)/\ref i.1= -1/\∀x,x∈E->0<=x
def HM(B U:Int->Prop)(ref:Int->Int)(m:Int):Prop:=(∀x,0<=x->x<m->∃r,OL ref x r/\ref r= -1)/\(∀y,ref y= -1\/B (ref y))/\∀y,ref y≠ -1->U y
section
variable{B U:Int->Prop}{hh ref:Int->Int}{E F:List Int}{i j:Int×Int}{a b x y r lo hi m:Int}{c d:List Int}
theorem OL.trans(h:OL ref x y)(h':OL ref y r):OL ref x r:=by
 induction h with
 | refl=>exact h'
 | step a _ ih=>exact .step a (ih h')
theorem OL.upd(ha:ref a= -1)(h:OL ref x r):OL (HO ref a b) x r:=by
 induction h with
 | refl=>exact .refl
 | @step x r h1 _ ih=>
  have hne:x≠a:=fun e=>by rw[e] at h1;omega
  have e:=Dq (f:=ref) (b:=b) hne;exact .step (by rw[e];exact h1) (by rw[e];exact ih)
theorem OL.upd2(ha:∀y,ref y≠a)(h:OL ref x r)(hx:x≠a):OL (HO ref a b) x r:=by
 induction h with
 | refl=>exact .refl
 | @step x r h1 _ ih=>
  have e:=Dq (f:=ref) (b:=b) hx;exact .step (by rw[e];exact h1) (by rw[e];exact ih (ha x))
theorem ST.mem(h:ST ref lo hi c):hi∈c/\lo∈c:=by
 induction h with
 | one=>simp
 | cons _ _ _ ih=>exact⟨by simp,by simp[ih.2]⟩
theorem ST.upd(h:ST ref lo hi c)(ha:a∉c):ST (HO ref a b) lo hi c:=by
 induction h with
 | one=>exact .one
 | @cons x c h1 h2 _ ih=>
  have hne:x≠a:=fun e=>ha (by rw[e];simp);have e:=Dq (f:=ref) (b:=b) hne;exact .cons h1 (by rw[e];exact h2) (by rw[e];exact ih fun h=>ha (by simp[h]))
theorem ST.rch(h:ST ref lo hi c):OL ref hi lo:=by
 induction h with
 | one=>exact .refl
 | cons _ h2 _ ih=>exact .step h2 ih
theorem ST.app{lo' hi':Int}(h:ST ref lo hi c)(h':ST ref lo' hi' d)(hd:∀x,x∈c->x∉d)(h0:0<=hi'):ST (HO ref lo hi') lo' hi (c++d):=by
 induction h with
 | one=>
  refine .cons (fun e=>hd lo (by simp) (by rw[e];exact h'.mem.2)) (by rw[Dr];exact h0) ?_;rw[Dr];exact h'.upd (hd lo (by simp))
 | @cons x c h1 h2 h3 ih=>
  have e:=Dq (f:=ref) (b:=hi') h1;refine .cons (fun e=>hd x (by simp) (by rw[e];exact h'.mem.2)) (by rw[e];exact h2) ?_;rw[e];exact ih fun x hx=>hd x (by simp[hx])
theorem FE.congr(h:FE hh ref E i)(e:∀x,x∈E↔x∈F):FE hh ref F i:=by
 rcases h with⟨rfl,h⟩|⟨c,h1,h2,h3,h4,h5,h6,h7⟩
 .refine .inl ⟨?_,h⟩;cases F with
  | nil=>rfl
  | cons x F=>exact absurd ((e x).2 (by simp)) (by simp)
 exact .inr ⟨c,h1,h2,fun x hx=>(e x).1 (h3 x hx),fun x hx=>h4 x ((e x).2 hx),fun x hx=>h5 x ((e x).2 hx),h6,fun x hx=>h7 x ((e x).2 hx)⟩
theorem FE.nil:FE hh ref [] (-1,-1):=.inl ⟨rfl,rfl⟩
theorem FE.one(h:ref x= -1)(h0:0<=x):FE hh ref [x] (x,x):=.inr ⟨[x],.one,by simp,by simp,by simp,fun y hy=>by simp at hy;rw[hy];exact .refl,h,by simpa using h0⟩
theorem FE.emp(h:FE hh ref E i):i=(-1,-1)↔E=[]:=by
 rcases h with⟨h1,h2⟩|⟨c,h1,h2,h3,h4,h5,h6,h7⟩
 .exact⟨fun _=>h1,fun _=>h2⟩
 have:=h7 _ (h3 _ h1.mem.2);exact⟨fun e=>by rw[e] at this;exact absurd this (by decide),fun e=>absurd (h3 _ h1.mem.2) (by rw[e];simp)⟩
theorem FE.low(h:FE hh ref E i)(hE:E≠[]):i.1∈E/\(∀x,x∈E->hh i.1<=hh x)/\ref i.1= -1/\0<=i.1:=by
 rcases h with⟨h1,h2⟩|⟨c,h1,h2,h3,h4,h5,h6,h7⟩
 .exact absurd h1 hE
 refine⟨h3 _ h1.mem.2,fun x hx=>?_,h6,h7 _ (h3 _ h1.mem.2)⟩;obtain⟨y,hy,e⟩:=h4 x hx;rw[<-e];clear h3 h4 h5 h6 h7;generalize i.2=hi at h1
 induction h1 with
 | one=>simp at hy;rw[hy];exact A2g _
 | @cons z c g1 g2 g3 ih=>
  rw[A2C] at h2;rcases A1H.1 hy with rfl|hy
  .exact h2.1 _ g3.mem.2
  exact ih h2.2 hy
theorem FE.top(h:FE hh ref E i)(hE:E≠[]):i.2∈E/\(∀x,x∈E->hh x<=hh i.2)/\0<=i.2/\OL ref i.2 i.1:=by
 rcases h with⟨h1,h2⟩|⟨c,h1,h2,h3,h4,h5,h6,h7⟩
 .exact absurd h1 hE
 refine⟨h3 _ h1.mem.1,fun x hx=>?_,h7 _ (h3 _ h1.mem.1),h1.rch⟩;obtain⟨y,hy,e⟩:=h4 x hx;rw[<-e];obtain⟨lo,hi⟩:=i;dsimp only at *;cases h1 with
 | one=>simp at hy;rw[hy];exact A2g _
 | cons g1 g2 g3=>
  rw[A2C] at h2;rcases A1H.1 hy with rfl|hy
  .exact A2g _
  exact h2.1 _ hy
theorem FE.rch(h:FE hh ref E i)(hx:x∈E):OL ref x i.1:=by
 rcases h with⟨h1,h2⟩|⟨c,h1,h2,h3,h4,h5,h6,h7⟩
 .rw[h1] at hx;simp at hx
 exact h5 x hx
theorem FE.frame(h:FE hh ref E i)(ha:a∉E)(h0:ref a= -1\/∀y,ref y≠a):FE hh (HO ref a b) E i:=by
 rcases h with h|⟨c,h1,h2,h3,h4,h5,h6,h7⟩
 .exact .inl h
 refine .inr ⟨c,h1.upd (fun h=>ha (h3 _ h)),h2,h3,h4,fun x hx=>?_,?_,h7⟩
 .rcases h0 with h0|h0
  .exact(h5 x hx).upd h0
  exact(h5 x hx).upd2 h0 (fun e=>ha (by rw[<-e];exact hx))
 rw[Dq (fun e=>ha (by rw[<-e];exact h3 _ h1.mem.2)),h6]
def undr(i l:Int×Int):Int×Int:=if l=(-1,-1) then i else if i=(-1,-1) then l else(l.1,i.2)
def EQ(ref:Int->Int)(i l:Int×Int):Int->Int:=if l=(-1,-1) then ref else if i=(-1,-1) then ref else HO ref i.1 l.2
theorem FE.under(h:FE hh ref E i)(h':FE hh ref F j)(hd:∀x,x∈E->x∉F)(hle:∀x y,x∈E->y∈F->hh y<=hh x):FE hh (EQ ref i j) (E++F) (undr i j):=by
 unfold undr EQ;by_cases cj:F=[]
 .subst cj;rw[if_pos (h'.emp.2 rfl),if_pos (h'.emp.2 rfl)];exact h.congr (by simp)
 rw[if_neg (fun e=>cj (h'.emp.1 e)),if_neg (fun e=>cj (h'.emp.1 e))];by_cases ci:E=[]
 .subst ci;rw[if_pos (h.emp.2 rfl),if_pos (h.emp.2 rfl)];exact h'.congr (by simp)
 rw[if_neg (fun e=>ci (h.emp.1 e)),if_neg (fun e=>ci (h.emp.1 e))];have hj2:=h'.top cj;have hi1:=h.low ci;rcases h with⟨e,_⟩|⟨c,h1,h2,h3,h4,h5,h6,h7⟩
 .exact absurd e ci
 rcases h' with⟨e,_⟩|⟨d,g1,g2,g3,g4,g5,g6,g7⟩
 .exact absurd e cj
 have hcd:∀x,x∈c->x∉d:=fun x hx hy=>hd x (h3 x hx) (g3 x hy);have hn:i.1∉F:=hd _ hi1.1;refine .inr ⟨c++d,h1.app g1 hcd hj2.2.2.1,?_,fun x hx=>?_,fun x hx=>?_,fun x hx=>?_,?_,fun x hx=>?_⟩
 .rw[A2s];exact⟨h2,g2,fun x hx y hy=>hle x y (h3 x hx) (g3 y hy)⟩
 .rcases A1C.1 hx with q|q
  .exact A1C.2 (.inl (h3 x q))
  exact A1C.2 (.inr (g3 x q))
 .rcases A1C.1 hx with q|q
  .obtain⟨y,hy,e⟩:=h4 x q;exact⟨y,A1C.2 (.inl hy),e⟩
  obtain⟨y,hy,e⟩:=g4 x q;exact⟨y,A1C.2 (.inr hy),e⟩
 .rcases A1C.1 hx with q|q
  .have k1:=(h5 x q).upd (b:=j.2) h6;have k2:=hj2.2.2.2.upd (b:=j.2) h6;exact k1.trans (.step (by rw[Dr];exact hj2.2.2.1) (by rw[Dr];exact k2))
  exact(g5 x q).upd h6
 .show HO ref i.1 j.2 j.1= -1;rw[Dq (fun e=>hn (by rw[<-e];exact g3 _ g1.mem.2)),g6]
 rcases A1C.1 hx with q|q
 .exact h7 x q
 exact g7 x q
theorem HM.upd(h:HM B U ref m)(hu:U a)(ha:ref a= -1)(hb:b= -1\/(0<=b/\B b/\∃r,OL ref b r/\ref r= -1/\r≠a)):HM B U (HO ref a b) m:=⟨fun x x0 x1=>by
 obtain⟨r,r1,r2⟩:=h.1 x x0 x1;by_cases c:r=a
 .subst c;rcases hb with rfl|⟨b0,_,r',q1,q2,q3⟩
  .exact⟨r,r1.upd ha,Dr⟩
  exact⟨r',(r1.upd ha).trans (.step (by rw[Dr];exact b0) (by rw[Dr];exact q1.upd ha)),by rw[Dq q3];exact q2⟩
 .exact⟨r,r1.upd ha,by rw[Dq c];exact r2⟩,fun y=>by
 by_cases c:y=a
 .rw[c,Dr];exact hb.imp id fun h=>h.2.1
 .rw[Dq c];exact h.2.1 y,fun y hy=>by
 by_cases c:y=a
 .rw[c];exact hu
 rw[Dq c] at hy;exact h.2.2 y hy⟩
theorem HM.upd2(h:HM B U ref m)(hu:U a)(ha:¬B a)(a0:0<=a)(hb:b= -1\/(0<=b/\b<m/\B b)):HM B U (HO ref a b) m:=by
 have ha':∀y,ref y≠a:=fun y c=>(h.2.1 y).elim (fun g=>by omega) fun g=>ha (by rw[<-c];exact g);refine⟨fun x x0 x1=>?_,fun y=>?_,fun y hy=>?_⟩
 .have st:∀y r,OL ref y r->y≠a->r≠a:=fun y r hr=>by
   induction hr with
   | refl=>exact id
   | @step x r _ _ ih=>exact fun _=>ih (ha' x)
  by_cases c:x=a
  .subst c;rcases hb with rfl|⟨b0,b1,b2⟩
   .exact⟨x,.refl,Dr⟩
   have hne:b≠x:=fun c=>ha (by rw[<-c];exact b2);obtain⟨r,r1,r2⟩:=h.1 b b0 b1;exact⟨r,.step (by rw[Dr];exact b0) (by rw[Dr];exact r1.upd2 ha' hne),by rw[Dq (st _ _ r1 hne)];exact r2⟩
  obtain⟨r,r1,r2⟩:=h.1 x x0 x1;exact⟨r,r1.upd2 ha' c,by rw[Dq (st _ _ r1 c)];exact r2⟩
 .by_cases c:y=a
  .rw[c,Dr];exact hb.imp id fun h=>h.2.2
  rw[Dq c];exact h.2.1 y
 by_cases c:y=a
 .rw[c];exact hu
 rw[Dq c] at hy;exact h.2.2 y hy
theorem FE.drop(h:FE hh ref E i)(h':FE hh ref F j)(hF:F≠[])(hd:∀x,x∈E->x∉F)(hy:y∈E)(hle:∀x,x∈F->hh x=hh y):FE hh (HO ref j.1 y) (E++F) i:=by
 have hE:E≠[]:=fun e=>by rw[e] at hy;simp at hy
 have hj:=h'.low hF;have hnj:j.1∉E:=fun e=>hd _ e hj.1;rcases h.frame (b:=y) hnj (.inl hj.2.2.1) with⟨e,_⟩|⟨c,h1,h2,h3,h4,h5,h6,h7⟩
 .exact absurd e hE
 have hF0:∀x,x∈F->0<=x:=fun x hx=>by
  rcases h' with⟨e,_⟩|⟨d,_,_,_,_,_,_,g⟩
  .exact absurd e hF
  exact g x hx
 refine .inr ⟨c,h1,h2,fun x hx=>A1C.2 (.inl (h3 x hx)),fun x hx=>?_,fun x hx=>?_,h6,fun x hx=>?_⟩
 .rcases A1C.1 hx with q|q
  .exact h4 x q
  obtain⟨z,hz,e⟩:=h4 y hy;exact⟨z,hz,by rw[e,hle x q]⟩
 .rcases A1C.1 hx with q|q
  .exact h5 x q
  exact((h'.rch q).upd hj.2.2.1).trans (.step (by rw[Dr];exact h7 y hy) (by rw[Dr];exact h5 y hy))
 rcases A1C.1 hx with q|q
 .exact h7 x q
 exact hF0 x q
theorem FE.trim(h:FE hh ref E i)(hE:E≠[]){H:Int}(hle:∀x,x∈E->hh x<=H):∃c,ST ref i.1 i.2 c/\(∀x,x∈c->x∈E)/\c.Pairwise (fun x y=>hh y<=hh x)/\
  ∀(z:Int) (l1 l2:List Int),c=l1++z::l2->ST ref i.1 z (z::l2)->(∀x,x∈l1->hh x=H)->hh z<H->FE hh ref (E.filter fun x=>decide (hh x<H)) (i.1,z):=by
 rcases h with⟨e,_⟩|⟨c,h1,h2,h3,h4,h5,h6,h7⟩
 .exact absurd e hE
 refine⟨c,h1,h3,h2,fun z l1 l2 e hz hl hlt=>.inr ⟨z::l2,hz,?_,fun x hx=>?_,fun x hx=>?_,fun x hx=>h5 x (A1D.1 hx).1,h6,fun x hx=>h7 x (A1D.1 hx).1⟩⟩
 .rw[e,A2s] at h2;exact h2.2.1
 .refine A1D.2 ⟨h3 x (by rw[e];exact A1C.2 (.inr hx)),?_⟩;rw[e,A2s,A2C] at h2;rcases A1H.1 hx with rfl|hx
  .simpa using hlt
  have:=h2.2.1.1 x hx;simp;omega
 obtain⟨q1,q2⟩:=A1D.1 hx;obtain⟨y,hy,ey⟩:=h4 x q1;refine⟨y,?_,ey⟩;rw[e] at hy;rcases A1C.1 hy with hy|hy
 .have:=hl y hy;simp at q2;omega
 exact hy
end
end
section
open Classical
abbrev IP:=(Int×Int)×(Int×Int)
abbrev noI:Int×Int:=(-1,-1)
def eX(X:List Int):List Int:=X.map (· / 2)
def NN(hh ref:Int->Int)(p:List Int×List Int)(q:IP):Prop:=FE hh ref (eX p.1) q.1/\FE hh ref (eX p.2) q.2
inductive Sta (hh ref:Int->Int):PL->List IP->Prop
 | nil:Sta hh ref [] []
 | snoc {S:PL} {st:List IP} {p:List Int×List Int} {q:IP}:Sta hh ref S st->NN hh ref p q->Sta hh ref (S++[p]) (st++[q])
section
variable{hh ref:Int->Int}{S:PL}{st:List IP}{p:List Int×List Int}{q:IP}{a b x:Int}
theorem CW{X:List Int}:x∈eX X↔∃b,b∈X/\b / 2=x:=by unfold eX;rw[A1G]
theorem Ep{X:List Int}:eX X=[]↔X=[]:=by unfold eX;simp
theorem Hp{X Y:List Int}:eX (X++Y)=eX X++eX Y:=by unfold eX;rw[A1Y]
theorem Sta.length(h:Sta hh ref S st):S.length=st.length:=by
 induction h with
 | nil=>rfl
 | snoc _ _ ih=>simp[ih]
theorem Sta.last(h:Sta hh ref (S++[p]) st):∃st' q,st=st'++[q]/\Sta hh ref S st'/\NN hh ref p q:=by
 generalize e:S++[p]=T at h;cases h with
 | nil=>simp at e
 | snoc h1 h2=>
  have:=A2Y e rfl;obtain⟨rfl,e2⟩:=this;simp at e2;subst e2;exact⟨_,_,rfl,h1,h2⟩
theorem NN.frame(h:NN hh ref p q)(ha:a∉eX (B7 p))(h0:ref a= -1\/∀y,ref y≠a):NN hh (HO ref a b) p q:=by
 unfold B7 at ha;rw[Hp,A1C] at ha;exact⟨h.1.frame (fun c=>ha (.inl c)) h0,h.2.frame (fun c=>ha (.inr c)) h0⟩
theorem Sta.frame(h:Sta hh ref S st)(ha:a∉eX (Bm S))(h0:ref a= -1\/∀y,ref y≠a):Sta hh (HO ref a b) S st:=by
 induction h with
 | nil=>exact .nil
 | @snoc S st p q h1 h2 ih=>
  rw[By,Hp,A1C] at ha;refine .snoc (ih fun c=>ha (.inl c)) (h2.frame (fun c=>ha (.inr ?_)) h0);simpa [Bm] using c
theorem Sta.app{T:PL}{tt:List IP}(h:Sta hh ref S st)(h':Sta hh ref T tt):Sta hh ref (S++T) (st++tt):=by
 induction h' with
 | nil=>simpa using h
 | snoc _ h2 ih=>rw[<-A1L,<-A1L];exact .snoc ih h2
theorem Sta.split{T:PL}:∀{st:List IP},Sta hh ref (S++T) st->∃s1 s2,st=s1++s2/\Sta hh ref S s1/\Sta hh ref T s2:=by
 suffices ∀(n:Nat) (T:PL),T.length=n->∀st:List IP,Sta hh ref (S++T) st->∃s1 s2,st=s1++s2/\Sta hh ref S s1/\Sta hh ref T s2 from fun{st}=>this _ T rfl st
 intro n
 induction n with
 | zero=>
  intro T e st h;rw[A3l] at e;subst e;exact⟨st,[],by simp,by simpa using h,.nil⟩
 | succ n ih=>
  intro T e st h;obtain⟨T',p,rfl⟩:∃T' p,T=T'++[p]:=⟨T.dropLast,T.getLast (fun c=>by rw[c] at e;simp at e),(A3Q _).symm⟩;rw[<-A1L] at h;obtain⟨st',q,rfl,h1,h2⟩:=h.last;obtain⟨s1,s2,rfl,h3,h4⟩:=ih T' (by simpa using e) _ h1;exact⟨s1,s2++[q],by simp,h3,.snoc h4 h2⟩
end
section
variable(es:List Pr)(pa he oi lo:Int->Int)(N v:Int)(D:List Int)(e b0 e0 l0 m:Int)(S:PL)(p0:List Int×List Int)(Pt:PL)(U:Int->Prop)
def Hz(X:List Int):Prop:=X.Nodup/\∀b,b∈X->DO es pa oi b
def FL(x:Int):Prop:=DO es pa oi (oi x)/\oi x / 2=x
def C1(ref:Int->Int)(st:List IP)(pr:Int×Int):Prop:=∃Qr Q0 Q1:PL,Gx es pa he oi N [e] (Qr++(Q0++Q1))/\(Q0≠[]->Qr=[])/\(∀x,x∈Bm Q0->he (AD es x)=he (AD es b0))/\(∀x,x∈Bm Q1->he (AD es b0)<he (AD es x))/\(∀p,p∈Q1->p.1=[])/\
 Sta lo ref (S++((EP p0 (Bm Q0)::Pt)++Qr)) st/\FE lo ref (eX (Bm Q1)) pr/\HM (FL es pa oi) U ref m/\Hz es pa oi (Bm S++(Bm (p0::Pt)++Bm (Qr++(Q0++Q1))))
def C2(ref:Int->Int)(st:List IP)(pl pr:Int×Int):Prop:=∃Q0 Q1 Pu P1:PL,Gx es pa he oi N [e] (Q0++Q1)/\Gx es pa he oi N D ((p0::Pu)++P1)/\(∀x,x∈Bm Q0->he (AD es x)=he (AD es b0))/\(∀x,x∈Bm Q1->he (AD es b0)<he (AD es x))/\(∀p,p∈Q1->p.1=[])/\
 (∀p,p∈P1->(∃x,x∈p.1/\he (AD es e0)<he (AD es x))/\∀x,x∈p.2->he (AD es x)<=he (AD es e0))/\
 Sta lo ref (S++(EP p0 (Bm Q0)::Pu)) st/\FE lo ref (eX (P1.flatMap (·.1))) pl/\FE lo ref (eX (Bm Q1++P1.flatMap (·.2))) pr/\HM (FL es pa oi) U ref m/\Hz es pa oi (Bm S++(Bm ((p0::Pu)++P1)++Bm (Q0++Q1)))
end
section
variable{es:List Pr}{pa he oi lo:Int->Int}{N v:Int}{out:Int->List Int}{D:List Int}{e b0 e0 l0 m:Int}{S:PL}{p0:List Int×List Int}{Pt:PL}{ref:Int->Int}{st:List IP}{pl pr:Int×Int}
theorem Fy(hF:CD es pa he oi N){X Y:List Int}(hX:∀b,b∈X->DO es pa oi b)(hY:∀b,b∈Y->DO es pa oi b)(hd:∀b,b∈X->b∉Y):∀x,x∈eX X->x∉eX Y:=fun x hx hy=>by
 obtain⟨b,h1,h2⟩:=CW.1 hx;obtain⟨c,h3,h4⟩:=CW.1 hy;have:=(hF.orn_ne (hX b h1).1 (hY c h3).1).1 (by rw[h2,h4]);subst this;exact hd b h1 h3
theorem Hz.perm{X Y:List Int}(h:Hz es pa oi X)(hp:X.Perm Y):Hz es pa oi Y:=⟨hp.nodup_iff.1 h.1,fun b hb=>h.2 b (hp.mem_iff.2 hb)⟩
theorem Hz.sub{X Y:List Int}(h:Hz es pa oi Y)(hp:X.Sublist Y):Hz es pa oi X:=⟨List.Nodup.sublist hp h.1,fun b hb=>h.2 b (hp.subset hb)⟩
theorem bke{b:Int}(h:DO es pa oi b):FL es pa oi (b / 2):=by unfold FL;rw[h.1.2];exact⟨h,rfl⟩
theorem Ji{X:List Int}(h:∀b,b∈X->DO es pa oi b):∀x,x∈eX X->FL es pa oi x:=fun x hx=>by
 obtain⟨b,h1,rfl⟩:=CW.1 hx;exact bke (h b h1)
theorem FJ{p:List Int×List Int}:Bm [p]=B7 p:=by simp[Bm]
theorem Cl{p:List Int×List Int}{P:PL}:Bm (p::P)=B7 p++Bm P:=by simp[Bm]
theorem JN(hF:CD es pa he oi N)(hL:B9 es pa he oi lo N out){X:List Int}(hX:∀b,b∈X->DO es pa oi b){x:Int}(hx:x∈eX X):∃b,b∈X/\b / 2=x/\lo x=he (AD es b):=by
 obtain⟨b,h1,h2⟩:=CW.1 hx;exact⟨b,h1,h2,by rw[<-h2];exact hL.back hF (hX b h1)⟩
theorem FE.min_e(hF:CD es pa he oi N)(hL:B9 es pa he oi lo N out){X:List Int}{i:Int×Int}(hX:∀b,b∈X->DO es pa oi b)(h:FE lo ref (eX X) i)(hne:X≠[]):(∃b,b∈X/\b / 2=i.1/\lo i.1=he (AD es b))/\∀b,b∈X->lo i.1<=he (AD es b):=by
 have h1:=h.low (fun c=>hne (Ep.1 c));exact⟨JN hF hL hX h1.1,fun b hb=>by rw[<-hL.back hF (hX b hb)];exact h1.2.1 _ (CW.2 ⟨b,hb,rfl⟩)⟩
theorem FE.max_e(hF:CD es pa he oi N)(hL:B9 es pa he oi lo N out){X:List Int}{i:Int×Int}(hX:∀b,b∈X->DO es pa oi b)(h:FE lo ref (eX X) i)(hne:X≠[]):(∃b,b∈X/\b / 2=i.2/\lo i.2=he (AD es b))/\∀b,b∈X->he (AD es b)<=lo i.2:=by
 have h1:=h.top (fun c=>hne (Ep.1 c));exact⟨JN hF hL hX h1.1,fun b hb=>by rw[<-hL.back hF (hX b hb)];exact h1.2.1 _ (CW.2 ⟨b,hb,rfl⟩)⟩
theorem FE.conf(hF:CD es pa he oi N)(hL:B9 es pa he oi lo N out){X:List Int}{i:Int×Int}(hX:∀b,b∈X->DO es pa oi b)(h:FE lo ref (eX X) i){H:Int}:(i≠noI/\H<lo i.2)↔∃x,x∈X/\H<he (AD es x):=by
 constructor
 .rintro⟨h1,h2⟩;have hne:X≠[]:=fun c=>h1 (h.emp.2 (by rw[c];rfl));obtain⟨⟨b,q1,q2,q3⟩,_⟩:=h.max_e hF hL hX hne;exact⟨b,q1,by omega⟩
 rintro⟨x,h1,h2⟩;have hne:X≠[]:=fun c=>by rw[c] at h1;simp at h1
 have:=(h.max_e hF hL hX hne).2 x h1;exact⟨fun c=>hne (Ep.1 (h.emp.1 c)),by omega⟩
theorem FE.rng(hF:CD es pa he oi N){X:List Int}{i:Int×Int}(hX:∀b,b∈X->DO es pa oi b)(h:FE lo ref (eX X) i)(hne:i≠noI):(0<=i.1/\i.1<es.length)/\0<=i.2/\i.2<es.length:=by
 have hE:eX X≠[]:=fun c=>hne (h.emp.2 c);have h1:=h.low hE;have h2:=h.top hE;obtain⟨b,b1,b2⟩:=CW.1 h1.1;obtain⟨c,c1,c2⟩:=CW.1 h2.1;have g1:=(hX b b1).1.1.2;have g2:=(hX c c1).1.1.2;exact⟨⟨h1.2.2.2,by omega⟩,h2.2.2.1,by omega⟩
end
end
section
open Classical
section
variable{hh ref:Int->Int}{S:PL}{st:List IP}{E F G:List Int}{i j k:Int×Int}{m:Int}{B U:Int->Prop}
theorem Sta.undr(h:Sta hh ref S st)(hi:FE hh ref E i)(hd:∀x,x∈E->x∉eX (Bm S)):Sta hh (EQ ref i j) S st:=by
 unfold EQ;split
 .exact h
 split
 .exact h
 rename_i h1 h2;have hE:E≠[]:=fun c=>h2 (hi.emp.2 c);have q:=hi.low hE;exact h.frame (hd _ q.1) (.inl q.2.2.1)
theorem FE.undr(h:FE hh ref G k)(hi:FE hh ref E i)(hd:∀x,x∈E->x∉G):FE hh (EQ ref i j) G k:=by
 unfold EQ;split
 .exact h
 split
 .exact h
 rename_i h1 h2;have hE:E≠[]:=fun c=>h2 (hi.emp.2 c);have q:=hi.low hE;exact h.frame (hd _ q.1) (.inl q.2.2.1)
theorem HM.undr(h:HM B U ref m)(hi:FE hh ref E i)(hj:FE hh ref F j)(hd:∀x,x∈E->x∉F)(hB:∀x,x∈F->B x)(hU:∀x,x∈E->U x):HM B U (EQ ref i j) m:=by
 unfold EQ;split
 .exact h
 split
 .exact h
 rename_i h1 h2;have hE:E≠[]:=fun c=>h2 (hi.emp.2 c);have hF:F≠[]:=fun c=>h1 (hj.emp.2 c);have q:=hi.low hE;have q1:=hj.low hF;have q2:=hj.top hF;exact h.upd (hU _ q.1) q.2.2.1 (.inr ⟨q2.2.2.1,hB _ q2.1,j.1,q2.2.2.2,q1.2.2.1,fun c=>hd _ q.1 (by rw[<-c];exact q1.1)⟩)
end
section
variable{es:List Pr}{pa he oi lo:Int->Int}{N v:Int}{out:Int->List Int}{D:List Int}{e b0 e0 l0 m:Int}{S:PL}{p0:List Int×List Int}{Pt Q:PL}{ref:Int->Int}{st:List IP}{pl pr:Int×Int}{U:Int->Prop}
theorem M7{p:List Int×List Int}:EP p []=p:=by unfold EP;split<;>simp
theorem C1.start(h2:Gx es pa he oi N [e] Q)(hS:Sta lo ref (S++((p0::Pt)++Q)) st)(hA:HM (FL es pa oi) U ref m)(hX:Hz es pa oi (Bm S++(Bm (p0::Pt)++Bm Q))):C1 es pa he oi lo N e b0 m S p0 Pt U ref st (-1,-1):=
 ⟨Q,[],[],by simpa using h2,fun h=>absurd rfl h,by simp[Bm],by simp[Bm],by simp,by simpa [Bm,M7] using hS,by simpa [Bm,eX] using FE.nil,hA,by simpa using hX⟩
theorem C1.done(h1:Gx es pa he oi N D (p0::Pt))(h:C1 es pa he oi lo N e b0 m S p0 Pt U ref st pr)(hl:st.length<=S.length+Pt.length+1):C2 es pa he oi lo N D e b0 e0 m S p0 U ref st (-1,-1) pr:=by
 obtain⟨Qr,Q0,Q1,c1,c2,c3,c4,c5,c6,c7,c8,c9⟩:=h;have:=c6.length;have hQ:Qr=[]:=A3l.1 (by simp at this;omega);subst hQ;exact⟨Q0,Q1,Pt,[],by simpa using c1,by simpa using h1,c3,c4,c5,by simp,by simpa using c6,by simpa [eX] using FE.nil,by simpa using c7,c8,by simpa using c9⟩
theorem C1.rng(hF:CD es pa he oi N)(h:C1 es pa he oi lo N e b0 m S p0 Pt U ref st pr)(hne:pr≠noI):(0<=pr.1/\pr.1<es.length)/\0<=pr.2/\pr.2<es.length:=by
 obtain⟨Qr,Q0,Q1,_,_,_,_,_,_,h,_,hX⟩:=h;exact h.rng hF (fun b hb=>hX.2 b (by simp[By,hb])) hne
theorem C1.step(hF:CD es pa he oi N)(hL:B9 es pa he oi lo N out)(hJ:Jn es pa he oi N v D e b0 e0)(h1:Gx es pa he oi N D (p0::Pt)){y0:Int}(hy:ID es pa he oi D y0)(hy0:y0 / 2=l0)(hU:∀b,Xs es pa he oi (D++[e]) b->U (b / 2))
 (h:C1 es pa he oi lo N e b0 m S p0 Pt U ref st pr)(hl:S.length+Pt.length+1<st.length):∃st' q,st=st'++[q]/\(q.1≠noI->q.2≠noI->∀s,¬Nk es pa he oi N s (D++[e]))/\
  ∀r:Int×Int,((q.1=noI/\r=q.2)\/(q.1≠noI/\q.2=noI/\r=q.1))->((0<=r.1/\r.1<es.length)/\0<=r.2/\r.2<es.length)/\
   (he (AD es b0)<lo r.1->C1 es pa he oi lo N e b0 m S p0 Pt U (EQ ref pr r) st' (undr pr r))/\(¬he (AD es b0)<lo r.1->C1 es pa he oi lo N e b0 m S p0 Pt U (HO ref r.1 l0) st' pr):=by
 obtain⟨Qr,Q0,Q1,c1,c2,c3,c4,c5,c6,c7,c8,c9⟩:=h;have hlen:=c6.length;have hQ:Qr≠[]:=fun c=>by subst c;simp at hlen;omega
 obtain⟨Qr,r0,rfl⟩:∃T p,Qr=T++[p]:=⟨Qr.dropLast,Qr.getLast hQ,(A3Q _).symm⟩;obtain rfl:Q0=[]:=Classical.byContradiction fun c=>by have:=c2 c;simp at this
 simp only[Bm,List.flatMap_nil,M7,A1N] at c6 c1 c9;rw[<-A1L,<-A1L] at c6;obtain⟨st',q,rfl,c6,hq⟩:=c6.last;rw[A1L] at c6;refine⟨st',q,rfl,fun n1 n2 s=>?_,?_⟩
 .have z1:r0.1≠[]:=fun c=>n1 (hq.1.emp.2 (by rw[c];rfl));have z2:r0.2≠[]:=fun c=>n2 (hq.2.emp.2 (by rw[c];rfl));obtain⟨x,hx⟩:=A2i _ z1;obtain⟨y,hyy⟩:=A2i _ z2;refine no_one (s:=s) hJ c1 (p:=r0) (by simp) hx hyy fun z hz=>?_;cases Qr with
  | nil=>
   exfalso;rcases(c1.lev r0 Q1 rfl).1 with f|f
   .exact z1 f
   exact z2 f
  | cons f Qr=>
   obtain⟨k1,k2,k3⟩:=c1.lev f (Qr++[r0]++Q1) (by simp);have hzX:Xs es pa he oi [e] z:=(c1.cov z).2 (Bx.2 ⟨r0,by simp,hz⟩);have hnz:¬ID es pa he oi [e] z:=fun hlz=>by
    have hzf:=k3 z hlz;have hn:=c1.nod;have e1:Bm (f::Qr++[r0]++Q1)=B7 f++Bm (Qr++[r0]++Q1):=by simp[Bm]
    rw[e1,A1I] at hn;exact hn.2.2 z hzf z (Bx.2 ⟨r0,by simp,hz⟩) rfl
   have h3:he (AD es e0)<he (AD es z):=Classical.byContradiction fun c=>hnz ⟨hzX,fun d hd=>by have:=hJ.le.2 d hd;omega⟩;have:=hJ.low;omega
 intro r hr
 -- turned so that the left is empty
 obtain⟨r1,hr1,hr2,hrep,hseg,hperm⟩:∃r1:List Int×List Int,r1.1=[]/\r1.2≠[]/\FE lo ref (eX r1.2) r/\Gx es pa he oi N [e] (Qr++r1::Q1)/\(B7 r0).Perm (B7 r1):=by
  have hf:=c1.ful r0 (by simp);rw[A1L] at c1;rcases hr with⟨n1,rfl⟩|⟨n1,n2,rfl⟩
  .have z1:r0.1=[]:=Ep.1 (hq.1.emp.1 n1);exact⟨r0,z1,fun c=>hf (by unfold B7;rw[z1,c];rfl),hq.2,by simpa using c1,.refl _⟩
  have z2:r0.2=[]:=Ep.1 (hq.2.emp.1 n2);exact⟨(r0.2,r0.1),z2,fun c=>hf (by unfold B7;rw[z2];dsimp only at c;rw[c];rfl),hq.1,QS (by simpa using c1),by unfold B7;exact A1v⟩
 have er1:B7 r1=r1.2:=by unfold B7;rw[hr1];rfl
 have hsets:Hz es pa oi (Bm S++(Bm (p0::Pt)++Bm (Qr++(r1::Q1)))):=by
  refine Hz.perm (X:=Bm S++(Bm (p0::Pt)++Bm (Qr++[r0]++Q1))) c9 ?_;refine List.Perm.append_left _ (List.Perm.append_left _ ?_);simp only[By,Cl,FJ,A1L];exact List.Perm.append_left _ (List.Perm.append_right _ hperm)
 have hb:∀b,b∈r1.2->DO es pa oi b:=fun b hbm=>hsets.2 b (by simp[By,Cl,er1,hbm]);have hb1:∀b,b∈Bm Q1->DO es pa oi b:=fun b hbm=>hsets.2 b (by simp[By,Cl,hbm]);have hne:r≠noI:=fun c=>hr2 (Ep.1 (hrep.emp.1 c));have hmin:=hrep.min_e hF hL hb hr2
 -- what is unlike
 have d1:∀x,x∈eX (Bm Q1)->x∉eX r1.2:=by
  refine Fy hF hb1 hb fun b x1 x2=>?_;have hn:=hseg.nod;rw[By,Cl,A1I,A1I] at hn;exact hn.2.1.2.2 b (by rw[er1];exact x2) b x1 rfl
 have d2:∀{X:List Int},(∀b,b∈X->b∈Bm Q1\/b∈r1.2)->∀x,x∈eX X->x∉eX (Bm (S++(p0::Pt++Qr))):=by
  intro X hX;have hn:=hsets.1;have hXb:∀b,b∈X->DO es pa oi b:=fun b hbm=>(hX b hbm).elim (hb1 b) (hb b);refine Fy hF hXb (fun b hbm=>hsets.2 b ?_) fun b x1 x2=>?_
  .simp only[By,A1C] at hbm ⊢;rcases hbm with g|g|g
   .exact .inl g
   .exact .inr (.inl g)
   exact .inr (.inr (.inl g))
  have hbq:b∈Bm (r1::Q1):=by
   rw[Cl,er1,A1C];exact(hX b x1).symm
  simp only[By,A1I,A1C] at hn x2;rcases x2 with g|g|g
  .exact hn.2.2 b g b (.inr (.inr hbq)) rfl
  .exact hn.2.1.2.2 b g b (.inr hbq) rfl
  exact hn.2.1.2.1.2.2 b g b hbq rfl
 refine⟨hrep.rng hF hb hne,fun hgt=>?_,fun hle=>?_⟩
 .refine⟨Qr,[],r1::Q1,by simpa using hseg,fun h=>absurd rfl h,by simp[Bm],fun x hx=>?_,fun p hp=>?_,?_,?_,?_,by simpa using hsets⟩
  .rw[Cl,er1,A1C] at hx;rcases hx with g|g
   .have:=hmin.2 x g;omega
   exact c4 x g
  .rcases A1H.1 hp with rfl|hp
   .exact hr1
   exact c5 p hp
  .have:=c6.undr (j:=r) c7 (fun x hx=>by have:=d2 (X:=Bm Q1) (fun b hb=>.inl hb) x hx;simpa using this);simpa [Bm,M7] using this
  .refine(c7.under hrep d1 fun x y hx hyy=>?_).congr fun x=>?_
   .obtain⟨b,g1,g2,g3⟩:=JN hF hL hb1 hx;obtain⟨c,g4,g5,g6⟩:=JN hF hL hb hyy;rw[g3,g6];have ho:=hseg.ord;rw[A2s,A2C] at ho;obtain⟨p,hp,hbp⟩:=Bx.1 g1;exact ho.2.1.1 p hp c b (by rw[er1];exact g4) hbp
   rw[Cl,er1,Hp,A1C,A1C];exact or_comm
  refine c8.undr c7 hrep d1 (Ji hb) fun x hx=>?_;obtain⟨b,w1,w2⟩:=CW.1 hx;rw[<-w2];exact hU b (Xs.app.2 (.inr ((hseg.cov b).2 (by simp[By,Cl,w1]))))
 -- the lowest
 obtain⟨⟨x0,g1,g2,g3⟩,g4⟩:=hmin;have hx0:Xs es pa he oi [e] x0:=(hseg.cov x0).2 (Bx.2 ⟨r1,by simp,by rw[er1];exact g1⟩);have k1:=hJ.le.2 x0 hx0;have k2:=hJ.low;have hlo:ID es pa he oi [e] x0:=⟨hx0,fun c hc=>by have:=hJ.le.2 c hc;omega⟩;have hQr:Qr=[]:=by
  cases Qr with
  | nil=>rfl
  | cons f Qr=>
   exfalso;have hxf:=(hseg.lev f (Qr++r1::Q1) (by simp)).2.2 x0 hlo;have hn:=hseg.nod;have e1:Bm (f::Qr++r1::Q1)=B7 f++Bm (Qr++r1::Q1):=by simp[Bm]
   rw[e1,A1I] at hn;exact hn.2.2 x0 hxf x0 (Bx.2 ⟨r1,by simp,by rw[er1];exact g1⟩) rfl
 subst hQr;have hall:∀x,x∈r1.2->he (AD es x)=he (AD es b0):=fun x hx=>by
  have:=(hseg.lev r1 Q1 (by simp)).2.1 x (by rw[er1];exact hx);have:=this.2 x0 hx0;have:=hlo.2 x ((hseg.cov x).2 (Bx.2 ⟨r1,by simp,by rw[er1];exact hx⟩));omega
 have hrlo:=hrep.low (fun c=>hr2 (Ep.1 c))
 -- where the lowest of D lies
 obtain⟨lv1,lv2,lv3⟩:=h1.lev p0 Pt rfl;have hyp:=lv3 y0 hy;have hyh:he (AD es y0)=he (AD es b0):=by have:=hy.2 b0 hJ.lo.1;have:=hJ.lo.2 y0 hy.1;omega
 have hpB:∀b,b∈B7 p0->DO es pa oi b:=fun b hbm=>hsets.2 b (by simp[Cl,hbm]);have c6':Sta lo ref ((S++[p0])++Pt) st':=by simpa using c6
 obtain⟨s1,s2,rfl,t1,t2⟩:=c6'.split;obtain⟨s1,q0,rfl,t1,t3⟩:=t1.last;have dd:=d2 (X:=r1.2) (fun b hb=>.inr hb) r.1 hrlo.1;simp only[By,Cl,Hp,A1C,A1O] at dd;have fS:r.1∉eX (Bm S):=fun c=>dd (.inl c);have fp:r.1∉eX (B7 p0):=fun c=>dd (.inr (.inl c));have fP:r.1∉eX (Bm Pt):=fun c=>dd (.inr (.inr (by simp[Bm,eX];simpa [Bm,eX] using c)));have hside:∀{X:List Int} {ii:Int×Int},FE lo ref (eX X) ii->(∀b,b∈X->b∈B7 p0)->y0∈X->FE lo (HO ref r.1 l0) (eX (X++r1.2)) ii/\∃z,OL ref l0 z/\ref z= -1/\z≠r.1:=fun{X ii} hR hsub hyX=>by
  have hm:l0∈eX X:=CW.2 ⟨y0,hyX,hy0⟩;have hE:eX X≠[]:=fun c=>by rw[c] at hm;simp at hm
  have hlow:=hR.low hE;refine⟨?_,ii.1,hR.rch hm,hlow.2.2.1,fun c=>fp ?_⟩
  .rw[Hp];refine hR.drop hrep (fun c=>hr2 (Ep.1 c)) (fun x hx hx2=>?_) hm fun x hx=>?_
   .have:=d2 (X:=r1.2) (fun b hb=>.inr hb) x hx2;apply this;obtain⟨b,w1,w2⟩:=CW.1 hx;exact CW.2 ⟨b,by simp only[By,Cl,A1C];exact .inr (.inl (.inl (hsub b w1))),w2⟩
   obtain⟨b,w1,w2,w3⟩:=JN hF hL hb hx;rw[w3,<-hy0,hL.back hF (hpB y0 hyp),hyh];exact hall b w1
  obtain⟨b,w1,w2⟩:=CW.1 hlow.1;exact CW.2 ⟨b,hsub b w1,by rw[w2,c]⟩
 have hpair:NN lo (HO ref r.1 l0) (EP p0 r1.2) q0/\∃z,OL ref l0 z/\ref z= -1/\z≠r.1:=by
  have t4:=t3.frame (b:=l0) fp (.inl hrlo.2.2.1);unfold EP;split
  .rename_i hz;have hyX:y0∈p0.2:=by
    rcases AJ.1 hyp with g|g
    .rw[hz] at g;simp at g
    exact g
   have:=hside t3.2 (fun b hb=>AJ.2 (.inr hb)) hyX;exact⟨⟨t4.1,this.1⟩,this.2⟩
  rename_i hz;have hz2:=lv1.resolve_left hz;have hyX:y0∈p0.1:=by
   rcases AJ.1 hyp with g|g
   .exact g
   rw[hz2] at g;simp at g
  have:=hside t3.1 (fun b hb=>AJ.2 (.inl hb)) hyX;exact⟨⟨this.1,t4.2⟩,this.2⟩
 refine⟨[],[r1],Q1,by simpa using hseg,fun _=>rfl,fun x hx=>?_,c4,c5,?_,?_,?_,by simpa using hsets⟩
 .rw[FJ,er1] at hx;exact hall x hx
 .rw[FJ,er1];have:=((t1.frame (b:=l0) fS (.inl hrlo.2.2.1)).snoc hpair.1).app (t2.frame (b:=l0) fP (.inl hrlo.2.2.1));simpa using this
 .exact c7.frame (fun c=>d1 _ c hrlo.1) (.inl hrlo.2.2.1)
 refine c8.upd (by rw[<-g2];exact hU x0 (Xs.app.2 (.inr hx0))) hrlo.2.2.1 (.inr ⟨?_,?_,hpair.2⟩)
 .have:=(hpB y0 hyp).1.1.1;omega
 rw[<-hy0];exact bke (hpB y0 hyp)
end
end
section
open Classical
section
variable(es:List Pr)(pa he oi lo:Int->Int)(N:Int)(D:List Int)(m:Int)(S:PL)(U:Int->Prop)
def JR(ref:Int->Int)(st:List IP):Prop:=∃P,Gx es pa he oi N D P/\Sta lo ref (S++P) st/\HM (FL es pa oi) U ref m/\Hz es pa oi (Bm S++Bm P)
end
def Sw(lo:Int->Int)(H:Int)(i:Int×Int):Prop:=i≠noI/\H<lo i.2
section
variable{es:List Pr}{pa he oi lo:Int->Int}{N v:Int}{out:Int->List Int}{D:List Int}{e b0 e0 m:Int}{S:PL}{p0:List Int×List Int}{Pt Q:PL}{ref:Int->Int}{st:List IP}{pl pr:Int×Int}{U:Int->Prop}
theorem C2.rng(hF:CD es pa he oi N)(h:C2 es pa he oi lo N D e b0 e0 m S p0 U ref st pl pr):(pl≠noI->(0<=pl.1/\pl.1<es.length)/\0<=pl.2/\pl.2<es.length)/\(pr≠noI->(0<=pr.1/\pr.1<es.length)/\0<=pr.2/\pr.2<es.length):=by
 obtain⟨Q0,Q1,Pu,P1,_,_,_,_,_,_,_,h1,h2,_,hX⟩:=h;have hP:∀p,p∈P1->∀b,b∈B7 p->DO es pa oi b:=fun p hp b hb=>hX.2 b (by simp only[By,A1C];exact .inr (.inl (.inr (Bx.2 ⟨p,hp,hb⟩))));refine⟨fun hne=>h1.rng hF (fun b hb=>?_) hne,fun hne=>h2.rng hF (fun b hb=>?_) hne⟩
 .obtain⟨p,hp,hb⟩:=A1R.1 hb;exact hP p hp b (AJ.2 (.inl hb))
 rcases A1C.1 hb with hb|hb
 .exact hX.2 b (by simp only[By,A1C];exact .inr (.inr (.inr hb)))
 obtain⟨p,hp,hb⟩:=A1R.1 hb;exact hP p hp b (AJ.2 (.inr hb))
theorem C2.fin(hF:CD es pa he oi N)(hJ:Jn es pa he oi N v D e b0 e0){Q0 Q1 Pu P1:PL}(c1:Gx es pa he oi N [e] (Q0++Q1))(c2:Gx es pa he oi N D ((p0::Pu)++P1))(c3:∀x,x∈Bm Q0->he (AD es x)=he (AD es b0))(c4:∀x,x∈Bm Q1->he (AD es b0)<he (AD es x))(c5:∀p,p∈Q1->p.1=[])
 (c6:∀p,p∈P1->(∃x,x∈p.1/\he (AD es e0)<he (AD es x))/\∀x,x∈p.2->he (AD es x)<=he (AD es e0))(c7:Sta lo ref (S++(EP p0 (Bm Q0)::Pu)) st)(c8:FE lo ref (eX (P1.flatMap (·.1))) pl)(c9:FE lo ref (eX (Bm Q1++P1.flatMap (·.2))) pr)(hA:HM (FL es pa oi) U ref m)(hX:Hz es pa oi (Bm S++(Bm ((p0::Pu)++P1)++Bm (Q0++Q1))))
 (hp0:∀x,x∈Bm (p0::Pu)->he (AD es x)<=he (AD es e0)):JR es pa he oi lo N (D++[e]) m S U ref (if pl=noI/\pr=noI then st else st++[(pl,pr)]):=by
 have hm:=VY hF hJ c2 c1 c3 c4 c5 hp0 c6;refine⟨_,hm,?_,hA,?_,fun b hb=>?_⟩
 .unfold Ky;by_cases c:P1.flatMap (·.1)=[]/\Bm Q1++P1.flatMap (·.2)=[]
  .rw[if_pos c,if_pos ⟨c8.emp.2 (by rw[c.1];rfl),c9.emp.2 (by rw[c.2];rfl)⟩,A1O];exact c7
  rw[if_neg c,if_neg (fun h=>c ⟨Ep.1 (c8.emp.1 h.1),Ep.1 (c9.emp.1 h.2)⟩),<-A1L];exact .snoc c7 ⟨c8,c9⟩
 .have hn:=hX.1;rw[A1I] at hn ⊢;refine⟨hn.1,hm.nod,fun a ha b hb e'=>?_⟩;subst e';refine hn.2.2 a ha a ?_ rfl;rcases Xs.app.1 ((hm.cov a).2 hb) with g|g
  .exact A1C.2 (.inl ((c2.cov a).1 g))
  exact A1C.2 (.inr ((c1.cov a).1 g))
 rcases A1C.1 hb with hb|hb
 .exact hX.2 b (by simp[hb])
 obtain⟨h,_,hr⟩:=(hm.cov b).2 hb;exact hr.1
theorem U6{x:Int}{P:PL}{p:List Int×List Int}:x∈Bm (P++[p])↔x∈Bm P\/x∈B7 p:=by rw[By,FJ,A1C]
theorem C2.step(hF:CD es pa he oi N)(hL:B9 es pa he oi lo N out)(hJ:Jn es pa he oi N v D e b0 e0)(hU:∀b,Xs es pa he oi (D++[e]) b->U (b / 2))(h:C2 es pa he oi lo N D e b0 e0 m S p0 U ref st pl pr):∃st' q,st=st'++[q]/\
  (∀i,i=q.1\/i=q.2->i≠noI->(0<=i.1/\i.1<es.length)/\0<=i.2/\i.2<es.length)/\
  (¬Sw lo (he (AD es e0)) q.1->¬Sw lo (he (AD es e0)) q.2->JR es pa he oi lo N (D++[e]) m S U ref (if pl=noI/\pr=noI then st else st++[(pl,pr)]))/\
  (Sw lo (he (AD es e0)) q.1->Sw lo (he (AD es e0)) q.2->∀s,¬Nk es pa he oi N s (D++[e]))/\
  ∀l r,((l=q.1/\r=q.2)\/(l=q.2/\r=q.1))->Sw lo (he (AD es e0)) l->¬Sw lo (he (AD es e0)) r->C2 es pa he oi lo N D e b0 e0 m S p0 U (EQ (EQ ref pr r) pl l) st' (undr pl l) (undr pr r):=by
 obtain⟨Q0,Q1,Pu,P1,c1,c2,c3,c4,c5,c6,c7,c8,c9,c10,c11⟩:=h;have lev:=c2.lev p0 (Pu++P1) rfl;have hbX:∀b,b∈Bm (p0::Pu)\/b∈Bm P1\/b∈Bm Q0\/b∈Bm Q1->DO es pa oi b:=fun b hb=>c11.2 b (by
  simp only[By,A1C];rcases hb with g|g|g|g
  .exact .inr (.inl (.inl g))
  .exact .inr (.inl (.inr g))
  .exact .inr (.inr (.inl g))
  exact .inr (.inr (.inr g)));have hp0:∀x,x∈B7 p0->he (AD es x)<=he (AD es e0):=fun x hx=>by
  have:=(lev.2.1 x hx).2 b0 hJ.lo.1;have:=hJ.low;omega
 rcases List.eq_nil_or_concat Pu with hPu|⟨Pu,r0,hPu⟩
 .subst hPu;obtain⟨st',q,rfl,c7',hq⟩:=c7.last;have hB:∀b,b∈B7 (EP p0 (Bm Q0))->DO es pa oi b/\he (AD es b)<=he (AD es e0):=fun b hb=>by
   rcases DB.1 hb with g|g
   .exact⟨hbX b (.inl (by rw[Cl];simp[g])),hp0 b g⟩
   exact⟨hbX b (.inr (.inr (.inl g))),by have:=c3 b g;have:=hJ.low;omega⟩
  have n1:¬Sw lo (he (AD es e0)) q.1:=fun c=>by
   obtain⟨x,x1,x2⟩:=(hq.1.conf hF hL (fun b hb=>(hB b (AJ.2 (.inl hb))).1)).1 c;have:=(hB x (AJ.2 (.inl x1))).2;omega
  have n2:¬Sw lo (he (AD es e0)) q.2:=fun c=>by
   obtain⟨x,x1,x2⟩:=(hq.2.conf hF hL (fun b hb=>(hB b (AJ.2 (.inr hb))).1)).1 c;have:=(hB x (AJ.2 (.inr x1))).2;omega
  refine⟨st',q,rfl,fun i hi hne=>?_,fun _ _=>?_,fun c=>absurd c n1,fun l r hlr hl=>?_⟩
  .rcases hi with rfl|rfl
   .exact hq.1.rng hF (fun b hb=>(hB b (AJ.2 (.inl hb))).1) hne
   exact hq.2.rng hF (fun b hb=>(hB b (AJ.2 (.inr hb))).1) hne
  .exact C2.fin hF hJ c1 c2 c3 c4 c5 c6 c7 c8 c9 c10 c11 fun x hx=>hp0 x (by simpa [Bm] using hx)
  rcases hlr with⟨rfl,_⟩|⟨rfl,_⟩
  .exact absurd hl n1
  exact absurd hl n2
 rw[List.concat_eq_append] at hPu;subst hPu;rw[<-A1K,<-A1L] at c7;have c7w:=c7;obtain⟨st',q,rfl,c7,hq⟩:=c7.last;have hB:∀b,b∈B7 r0->DO es pa oi b:=fun b hb=>hbX b (.inl (by rw[<-A1K,U6];exact .inr hb));have k1:=hq.1.conf hF hL (H:=he (AD es e0)) (fun b hb=>hB b (AJ.2 (.inl hb)));have k2:=hq.2.conf hF hL (H:=he (AD es e0)) (fun b hb=>hB b (AJ.2 (.inr hb)));have ho:=c2.ord;have hn:=c2.nod;have hre:r0∈(p0::(Pu++[r0]))++P1:=by simp
 refine⟨st',q,rfl,fun i hi hne=>?_,fun n1 n2=>?_,fun h1 h2 s=>?_,fun l r hlr hl hr=>?_⟩
 .rcases hi with rfl|rfl
  .exact hq.1.rng hF (fun b hb=>hB b (AJ.2 (.inl hb))) hne
  exact hq.2.rng hF (fun b hb=>hB b (AJ.2 (.inr hb))) hne
 .have hr:∀x,x∈B7 r0->he (AD es x)<=he (AD es e0):=fun x hx=>Classical.byContradiction fun c=>by
   rcases AJ.1 hx with g|g
   .exact n1 (k1.2 ⟨x,g,by omega⟩)
   exact n2 (k2.2 ⟨x,g,by omega⟩)
  refine C2.fin hF hJ c1 c2 c3 c4 c5 c6 (by rw[<-A1K,<-A1L];exact c7w) c8 c9 c10 c11 fun x hx=>?_;rw[<-A1K,U6] at hx;rcases hx with g|g
  .obtain⟨y,hy⟩:=A2i _ (c2.ful r0 hre);rw[<-A1K,A1L,A2s] at ho;obtain⟨p,hp,hxp⟩:=Bx.1 g;have:=ho.2.2 p hp r0 (by simp) x y hxp hy;have:=hr y hy;omega
  exact hr x g
 .obtain⟨x,x1,x2⟩:=k1.1 h1;obtain⟨y,y1,y2⟩:=k2.1 h2;exact no_two hJ c2 hre x1 y1 x2 y2
 -- turned so that the conflict is left
 obtain⟨r1,hl1,hr1,hseg,hperm⟩:∃r1:List Int×List Int,FE lo ref (eX r1.1) l/\FE lo ref (eX r1.2) r/\Gx es pa he oi N D ((p0::Pu)++(r1::P1))/\(B7 r0).Perm (B7 r1):=by
  have e1:(p0::(Pu++[r0]))++P1=(p0::Pu)++(r0::P1):=by simp
  rw[e1] at c2;rcases hlr with⟨rfl,rfl⟩|⟨rfl,rfl⟩
  .exact⟨r0,hq.1,hq.2,c2,.refl _⟩
  exact⟨(r0.2,r0.1),hq.2,hq.1,QS c2,by unfold B7;exact A1v⟩
 have hB1:∀b,b∈B7 r1->DO es pa oi b:=fun b hb=>hB b (hperm.mem_iff.2 hb);have j1:=hl1.conf hF hL (H:=he (AD es e0)) (fun b hb=>hB1 b (AJ.2 (.inl hb)));have j2:=hr1.conf hF hL (H:=he (AD es e0)) (fun b hb=>hB1 b (AJ.2 (.inr hb)));have hsets:Hz es pa oi (Bm S++(Bm ((p0::Pu)++(r1::P1))++Bm (Q0++Q1))):=by
  refine c11.perm (List.Perm.append_left _ (List.Perm.append_right _ ?_));simp only[A1K,By,Cl,FJ,A1L];exact List.Perm.append_left _ (List.Perm.append_left _ (List.Perm.append_right _ hperm))
 have hr2:∀x,x∈r1.2->he (AD es x)<=he (AD es e0):=fun x hx=>Classical.byContradiction fun c=>hr (j2.2 ⟨x,hx,by omega⟩)
 -- parts of the new pair
 have inP:∀b,b∈P1.flatMap (·.1)\/b∈P1.flatMap (·.2)->b∈Bm P1:=fun b hb=>by
  rcases hb with g|g
  .obtain⟨p,hp,hb⟩:=A1R.1 g;exact Bx.2 ⟨p,hp,AJ.2 (.inl hb)⟩
  obtain⟨p,hp,hb⟩:=A1R.1 g;exact Bx.2 ⟨p,hp,AJ.2 (.inr hb)⟩
 have bL:∀b,b∈P1.flatMap (·.1)->DO es pa oi b:=fun b hb=>hbX b (.inr (.inl (inP b (.inl hb))));have bR:∀b,b∈Bm Q1++P1.flatMap (·.2)->DO es pa oi b:=fun b hb=>(A1C.1 hb).elim (fun g=>hbX b (.inr (.inr (.inr g)))) fun g=>hbX b (.inr (.inl (inP b (.inr g))));have hn2:=hsets.1;simp only[A1K,By,Cl,A1I,A1C] at hn2;obtain⟨-,⟨⟨-,⟨-,⟨nr1,nP1,nrP⟩,nPur⟩,np0⟩,⟨nQ0,nQ1,nQ01⟩,nPQ⟩,nS⟩:=hn2;have q12:∀b,b∈r1.1->b∉r1.2:=fun b h1 h2=>by
  unfold B7 at nr1;rw[A1I] at nr1;exact nr1.2.2 b h1 b h2 rfl
 have mQ:∀b,b∈Bm Q1->b∉B7 r1/\b∉Bm P1:=fun b hb=>⟨fun c=>nPQ b (.inr (.inr (.inl c))) b (.inr hb) rfl,fun c=>nPQ b (.inr (.inr (.inr c))) b (.inr hb) rfl⟩;have mP:∀b,b∈Bm P1->b∉B7 r1:=fun b hb c=>nrP b c b hb rfl;have fP1:∀b,b∈P1.flatMap (·.1)->b∉Bm Q1++P1.flatMap (·.2):=fun b hb hc=>by
  have:=MQ nP1 nQ1 fun x h1 h2=>(mQ x h2).2 h1;rw[A1I] at this;exact this.2.2 b hb b hc rfl
 have D1:∀x,x∈eX (Bm Q1++P1.flatMap (·.2))->x∉eX r1.2:=Fy hF bR (fun b hb=>hB1 b (AJ.2 (.inr hb))) fun b hb hc=>by
  rcases A1C.1 hb with g|g
  .exact(mQ b g).1 (AJ.2 (.inr hc))
  exact mP b (inP b (.inr g)) (AJ.2 (.inr hc))
 have D1':∀x,x∈eX (Bm Q1++P1.flatMap (·.2))->x∉eX r1.1:=Fy hF bR (fun b hb=>hB1 b (AJ.2 (.inl hb))) fun b hb hc=>by
  rcases A1C.1 hb with g|g
  .exact(mQ b g).1 (AJ.2 (.inl hc))
  exact mP b (inP b (.inr g)) (AJ.2 (.inl hc))
 have D2:∀x,x∈eX (Bm Q1++P1.flatMap (·.2))->x∉eX (P1.flatMap (·.1)):=fun x h1 h2=>Fy hF bL bR fP1 x h2 h1;have D3:∀x,x∈eX (P1.flatMap (·.1))->x∉eX r1.1:=Fy hF bL (fun b hb=>hB1 b (AJ.2 (.inl hb))) fun b hb hc=>mP b (inP b (.inl hb)) (AJ.2 (.inl hc));have D4:∀x,x∈eX (P1.flatMap (·.1))->x∉eX ((Bm Q1++P1.flatMap (·.2))++r1.2):=Fy hF bL (fun b hb=>(A1C.1 hb).elim (bR b) fun g=>hB1 b (AJ.2 (.inr g))) fun b hb hc=>by
  rcases A1C.1 hc with g|g
  .exact fP1 b hb g
  exact mP b (inP b (.inl hb)) (AJ.2 (.inr g))
 have D5:∀{X:List Int},(∀b,b∈X->b∈Bm Q1\/b∈Bm P1)->∀x,x∈eX X->x∉eX (Bm (S++(EP p0 (Bm Q0)::Pu))):=fun{X} hX=>by
  refine Fy hF (fun b hb=>(hX b hb).elim (fun g=>hbX b (.inr (.inr (.inr g)))) fun g=>hbX b (.inr (.inl g))) (fun b hb=>?_) fun b hb hc=>?_
  .simp only[By,Cl,A1C] at hb;rcases hb with g|g|g
   .exact c11.2 b (by simp[g])
   .rcases DB.1 g with g|g
    .exact hbX b (.inl (by rw[Cl];simp[g]))
    exact hbX b (.inr (.inr (.inl g)))
   exact hbX b (.inl (by simp[Cl,By,g]))
  simp only[By,Cl,A1C] at hc;have hw:b∈Bm Q1\/b∈Bm P1:=hX b hb;rcases hc with g|g|g
  .rcases hw with w|w
   .exact nS b g b (.inr (.inr w)) rfl
   exact nS b g b (.inl (.inr (.inr (.inr w)))) rfl
  .rcases DB.1 g with g|g
   .rcases hw with w|w
    .exact nPQ b (.inl g) b (.inr w) rfl
    exact np0 b g b (.inr (.inr w)) rfl
   rcases hw with w|w
   .exact nQ01 b g b w rfl
   exact nPQ b (.inr (.inr (.inr w))) b (.inl g) rfl
  rcases hw with w|w
  .exact nPQ b (.inr (.inl g)) b (.inr w) rfl
  exact nPur b g b (.inr w) rfl
 have hrest:∀(X Y:List Int),(∀b,b∈X->b∈Bm P1)->(∀b,b∈Y->b∈B7 r1)->∀x y,x∈eX X->y∈eX Y->lo y<=lo x:=fun X Y hX hY x y hx hy=>by
  obtain⟨b,g1,g2,g3⟩:=JN hF hL (fun b hb=>hbX b (.inr (.inl (hX b hb)))) hx;obtain⟨c,g4,g5,g6⟩:=JN hF hL (fun b hb=>hB1 b (hY b hb)) hy;rw[g3,g6];have ho:=hseg.ord;rw[A2s,A2C,A2C] at ho;obtain⟨p,hp,hbp⟩:=Bx.1 (hX b g1);exact ho.2.1.1 p hp c b (hY c g4) hbp
 have uR:=c9.under hr1 D1 fun x y hx hy=>by
  rw[Hp,A1C] at hx;rcases hx with hx|hx
  .obtain⟨b,g1,g2,g3⟩:=JN hF hL (fun b hb=>hbX b (.inr (.inr (.inr hb)))) hx;obtain⟨c,g4,g5,g6⟩:=JN hF hL (fun b hb=>hB1 b (AJ.2 (.inr hb))) hy;rw[g3,g6];have:=hr2 c g4;have:=hJ.le.2 b ((c1.cov b).2 (by rw[By];exact A1C.2 (.inr g1)));omega
  exact hrest (P1.flatMap (·.2)) r1.2 (fun b hb=>inP b (.inr hb)) (fun b hb=>AJ.2 (.inr hb)) x y hx hy
 have c8':=c8.undr (j:=r) c9 D2;have hl1':=hl1.undr (j:=r) c9 D1';have uL:=c8'.under hl1' D3 fun x y hx hy=>hrest (P1.flatMap (·.1)) r1.1 (fun b hb=>inP b (.inl hb)) (fun b hb=>AJ.2 (.inl hb)) x y hx hy;refine⟨Q0,Q1,Pu,r1::P1,c1,hseg,c3,c4,c5,fun p hp=>?_,?_,?_,?_,?_,hsets⟩
 .rcases A1H.1 hp with rfl|hp
  .exact⟨j1.1 hl,hr2⟩
  exact c6 p hp
 .exact(c7.undr (j:=r) c9 (D5 fun b hb=>(A1C.1 hb).imp id fun g=>inP b (.inr g))).undr (j:=l) c8' (D5 fun b hb=>.inr (inP b (.inl hb)))
 .refine uL.congr fun x=>?_;simp only[A2K,Hp,A1C];exact or_comm
 .refine(uR.undr (j:=l) c8' (by rw[<-Hp];exact D4)).congr fun x=>?_;simp only[A2K,Hp,A1C];constructor
  .rintro((g|g)|g)
   .exact .inl g
   .exact .inr (.inr g)
   exact .inr (.inl g)
  rintro(g|g|g)
  .exact .inl (.inl g)
  .exact .inr g
  exact .inl (.inr g)
 have uP:∀b,b∈Bm P1->U (b / 2):=fun b hb=>hU b (Xs.app.2 (.inl ((c2.cov b).2 (by rw[By];exact A1C.2 (.inr hb)))));refine(c10.undr c9 hr1 D1 (Ji fun b hb=>hB1 b (AJ.2 (.inr hb))) fun x hx=>?_).undr c8' hl1' D3 (Ji fun b hb=>hB1 b (AJ.2 (.inl hb))) fun x hx=>?_
 .obtain⟨b,w1,w2⟩:=CW.1 hx;rw[<-w2];rcases A1C.1 w1 with g|g
  .exact hU b (Xs.app.2 (.inr ((c1.cov b).2 (by rw[By];exact A1C.2 (.inr g)))))
  exact uP b (inP b (.inr g))
 obtain⟨b,w1,w2⟩:=CW.1 hx;rw[<-w2];exact uP b (inP b (.inl w1))
end
end
section
open Classical
def Wr(lo:Int->Int)(q:IP):Int:=if q.1=noI then lo q.2.1 else if q.2=noI then lo q.1.1 else min (lo q.1.1) (lo q.2.1)
def Gw(es:List Pr)(he:Int->Int)(u:Int)(b:Int):Bool:=decide (he (AD es b)<he u)
def Uq(es:List Pr)(pa he oi:Int->Int)(u:Int)(X:List Int):Prop:=∀b,b∈X->DO es pa oi b/\he (AD es b)<=he u/\(AD es b=u↔he (AD es b)=he u)
def Z3(es:List Pr)(he lo ref:Int->Int)(u:Int)(X:List Int)(i o:Int×Int)(ref':Int->Int)(i':Int×Int):Prop:=
 FE lo ref' (eX (X.filter (Gw es he u))) i'/\(ref'=ref\/(i≠noI/\ref'=HO ref i.1 o.1))
section
variable{es:List Pr}{pa he oi lo:Int->Int}{N u v:Int}{out:Int->List Int}{D X:List Int}{m:Int}{S S' P T:PL}{r:List Int×List Int}{ref ref1 ref2:Int->Int}{st:List IP}{q x:IP}{i o i' l1 r1:Int×Int}{U:Int->Prop}
theorem Uq.sub{Y:List Int}(h:Uq es pa he oi u X)(hs:∀b,b∈Y->b∈X):Uq es pa he oi u Y:=fun b hb=>h b (hs b hb)
theorem RF(hF:CD es pa he oi N)(hL:B9 es pa he oi lo N out)(h:NN lo ref r q)(hB:∀b,b∈B7 r->DO es pa oi b)(hne:B7 r≠[]):(∃b,b∈B7 r/\he (AD es b)=Wr lo q)/\∀b,b∈B7 r->Wr lo q<=he (AD es b):=by
 have b1:∀b,b∈r.1->DO es pa oi b:=fun b hb=>hB b (AJ.2 (.inl hb));have b2:∀b,b∈r.2->DO es pa oi b:=fun b hb=>hB b (AJ.2 (.inr hb));unfold Wr;split
 .rename_i c;have z:r.1=[]:=Ep.1 (h.1.emp.1 c);have z2:r.2≠[]:=fun c=>hne (by unfold B7;rw[z,c];rfl);obtain⟨⟨b,q1,q2,q3⟩,q4⟩:=h.2.min_e hF hL b2 z2;refine⟨⟨b,AJ.2 (.inr q1),q3.symm⟩,fun b hb=>?_⟩;rcases AJ.1 hb with g|g
  .rw[z] at g;simp at g
  exact q4 b g
 rename_i c;have z1:r.1≠[]:=fun d=>c (h.1.emp.2 (by rw[d];rfl));obtain⟨⟨b,q1,q2,q3⟩,q4⟩:=h.1.min_e hF hL b1 z1;split
 .rename_i d;have z:r.2=[]:=Ep.1 (h.2.emp.1 d);refine⟨⟨b,AJ.2 (.inl q1),q3.symm⟩,fun b hb=>?_⟩;rcases AJ.1 hb with g|g
  .exact q4 b g
  rw[z] at g;simp at g
 rename_i d;have z2:r.2≠[]:=fun d'=>d (h.2.emp.2 (by rw[d'];rfl));obtain⟨⟨b',q1',q2',q3'⟩,q4'⟩:=h.2.min_e hF hL b2 z2;refine⟨?_,fun b hb=>?_⟩
 .by_cases c:lo q.1.1<=lo q.2.1
  .exact⟨b,AJ.2 (.inl q1),by omega⟩
  exact⟨b',AJ.2 (.inr q1'),by omega⟩
 rcases AJ.1 hb with g|g
 .have:=q4 b g;omega
 have:=q4' b g;omega
/-! ### trimming -/
theorem ST.head{lo' hi:Int}{c:List Int}(h:ST ref lo' hi c):c=hi::c.tail:=by
 cases h with
 | one=>rfl
 | cons _ _ _=>rfl
theorem NU(h:FE lo ref (eX X) noI):Z3 es he lo ref u X noI o ref noI:=by
 have:X=[]:=Ep.1 (h.emp.1 rfl);subst this;exact⟨.nil,.inl rfl⟩
theorem UG(hF:CD es pa he oi N)(hL:B9 es pa he oi lo N out)(hX:Uq es pa he oi u X)(h:FE lo ref (eX X) i)(hne:i≠noI):∃TI:Int->Nat->Prop,(∃n,TI i.2 n)/\∀z n,TI z n->(0<=z/\z<es.length/\DO es pa oi (oi z))/\
  (AD es (oi z)≠u->Z3 es he lo ref u X i o ref (i.1,z))/\(AD es (oi z)=u->z=i.1->Z3 es he lo ref u X i o (HO ref i.1 o.1) noI)/\(AD es (oi z)=u->z≠i.1->∃n',n=n'+1/\TI (ref z) n'):=by
 have hE:eX X≠[]:=fun c=>hne (h.emp.2 c);have ed:∀y,y∈eX X->(0<=y/\y<es.length/\DO es pa oi (oi y))/\lo y=he (AD es (oi y))/\lo y<=he u/\(AD es (oi y)=u↔lo y=he u):=fun y hy=>by
  obtain⟨b,h1,h2⟩:=CW.1 hy;obtain⟨k1,k2,k3⟩:=hX b h1;have e1:=hL.back hF k1;have e2:oi y=b:=by rw[<-h2];exact k1.1.2
  rw[e2,<-h2,e1];have g:=k1.1.1;exact⟨⟨by have:=g.1;omega,by have:=g.2;omega,k1⟩,rfl,k2,k3⟩
 obtain⟨c,c1,c2,c3,c4⟩:=h.trim hE (H:=he u) (fun y hy=>(ed y hy).2.2.1);have hfil:∀y,y∈(eX X).filter (fun x=>decide (lo x<he u))↔y∈eX (X.filter (Gw es he u)):=fun y=>by
  rw[A1D];constructor
  .rintro⟨g1,g2⟩;obtain⟨b,h1,h2⟩:=CW.1 g1;refine CW.2 ⟨b,A1D.2 ⟨h1,?_⟩,h2⟩;rw[<-h2,hL.back hF (hX b h1).1] at g2;exact g2
  intro hy;obtain⟨b,h1,h2⟩:=CW.1 hy;obtain⟨g1,g2⟩:=A1D.1 h1;refine⟨CW.2 ⟨b,g1,h2⟩,?_⟩;rw[<-h2,hL.back hF (hX b g1).1];exact g2
 refine⟨fun z n=>∃l1 l2,c=l1++z::l2/\ST ref i.1 z (z::l2)/\(∀x,x∈l1->lo x=he u)/\n=l2.length,?_,?_⟩
 .exact⟨_,[],c.tail,c1.head,by rw[<-c1.head];exact c1,by simp,rfl⟩
 rintro z n ⟨l1,l2,e,hz,hl,hn⟩;have hzm:z∈eX X:=c2 z (by rw[e];simp);obtain⟨k1,k2,k3,k4⟩:=ed z hzm;refine⟨k1,fun hne'=>⟨?_,.inl rfl⟩,fun hu hzi=>⟨?_,.inr ⟨hne,rfl⟩⟩,fun hu hzi=>?_⟩
 .refine(c4 z l1 l2 e hz hl ?_).congr hfil;have:lo z≠he u:=fun c=>hne' (k4.2 c);omega
 .-- all lead to u
  have h2:l2=[]:=by
   subst hzi;cases hz with
   | one=>rfl
   | cons g _ _=>exact absurd rfl g
  subst h2;have hall:∀y,y∈c->lo y=he u:=fun y hy=>by
   rw[e] at hy;rcases A1C.1 hy with g|g
   .exact hl y g
   simp at g;subst g;exact k4.1 hu
  have hnil:X.filter (Gw es he u)=[]:=by
   refine List.filter_eq_nil_iff.2 fun b hb=>?_;have hbE:b / 2∈eX X:=CW.2 ⟨b,hb,rfl⟩;have:lo (b / 2)=he u:=by
    rcases h with⟨e',_⟩|⟨c',g1,g2,g3,g4,g5,g6,g7⟩
    .exact absurd e' hE
    have hcc:∀{hi:Int} {c d:List Int},ST ref i.1 hi c->ST ref i.1 hi d->c=d:=by
     intro hi c d hc
     induction hc generalizing d with
     | one=>intro hd;cases hd with
      | one=>rfl
      | cons g _ _=>exact absurd rfl g
     | cons g1 g2 _ ih=>intro hd;cases hd with
      | one=>exact absurd rfl g1
      | cons _ _ k=>rw[ih k]
    obtain⟨y,hy,ey⟩:=g4 _ hbE;rw[<-ey];exact hall y (by rw[hcc c1 g1];exact hy)
   unfold Gw;rw[hL.back hF (hX b hb).1] at this;simp;omega
  rw[hnil];exact .nil
 cases hz with
 | one=>exact absurd rfl hzi
 | cons g1 g2 g3=>
  refine⟨l2.length-1,?_,l1++[z],l2.tail,?_,?_,fun x hx=>?_,by simp⟩
  .cases l2 with
   | nil=>exact absurd g3.mem.1 (by simp)
   | cons a b=>simp at hn ⊢;omega
  .have:l2=ref z::l2.tail:=g3.head;rw[e];simp;exact this
  .have:l2=ref z::l2.tail:=g3.head;rw[<-this];exact g3
  rcases A1C.1 hx with w|w
  .exact hl x w
  simp at w;subst w;exact k4.1 hu
theorem Z3.rep{Y:List Int}{j:Int×Int}(h:Z3 es he lo ref u X i o ref1 i')(hi:FE lo ref (eX X) i)(hd:∀x,x∈eX X->x∉eX Y)(hY:FE lo ref (eX Y) j):FE lo ref1 (eX Y) j:=by
 rcases h.2 with e|⟨hne,e⟩
 .rw[e];exact hY
 rw[e];have hE:eX X≠[]:=fun c=>hne (hi.emp.2 c);have:=hi.low hE;exact hY.frame (hd _ this.1) (.inl this.2.2.1)
theorem Z3.sta(h:Z3 es he lo ref u X i o ref1 i')(hi:FE lo ref (eX X) i)(hd:∀x,x∈eX X->x∉eX (Bm T))(hY:Sta lo ref T st):Sta lo ref1 T st:=by
 rcases h.2 with e|⟨hne,e⟩
 .rw[e];exact hY
 rw[e];have hE:eX X≠[]:=fun c=>hne (hi.emp.2 c);have:=hi.low hE;exact hY.frame (hd _ this.1) (.inl this.2.2.1)
theorem Z3.acy(h:Z3 es he lo ref u X i o ref1 i')(hi:FE lo ref (eX X) i)(hU:∀b,b∈X->U (b / 2)){Y:List Int}(ho:FE lo ref (eX Y) o)(hB:∀b,b∈Y->DO es pa oi b)(hd:∀x,x∈eX X->x∉eX Y)(hA:HM (FL es pa oi) U ref m):HM (FL es pa oi) U ref1 m:=by
 rcases h.2 with e|⟨hne,e⟩
 .rw[e];exact hA
 rw[e];have hE:eX X≠[]:=fun c=>hne (hi.emp.2 c);have h1:=hi.low hE;obtain⟨b,w1,w2⟩:=CW.1 h1.1;refine hA.upd (by rw[<-w2];exact hU b w1) h1.2.2.1 ?_;by_cases c:o=noI
 .rw[c];exact .inl rfl
 have hE2:eX Y≠[]:=fun d=>c (ho.emp.2 d);have h2:=ho.low hE2;exact .inr ⟨h2.2.2.2,Ji hB _ h2.1,o.1,.refl,h2.2.2.1,fun c=>hd _ h1.1 (by rw[<-c];exact h2.1)⟩
/-! ### what is wholly high goes -/
def LV(es:List Pr)(pa he oi lo:Int->Int)(u m:Int)(S P:PL)(U:Int->Prop)(ref:Int->Int)(st:List IP):Prop:=∃Pr Pd,P=Pr++Pd/\(∀b,b∈Bm Pd->he (AD es b)=he u)/\Sta lo ref (S++Pr) st/\HM (FL es pa oi) U ref m/\Hz es pa oi (Bm S++Bm P)
structure LvP (es:List Pr) (pa he oi:Int->Int) (u:Int) (S P:PL):Prop where
 low:∀b,b∈Bm S->he (AD es b)<he u
 ful:∀p,p∈S++P->B7 p≠[]
 up:Uq es pa he oi u (Bm P)
 ord:P.Pairwise fun p q=>∀x y,x∈B7 p->y∈B7 q->he (AD es x)<=he (AD es y)
theorem OZ(h:∀b,b∈Bm P->he (AD es b)=he u):HD (Gw es he u) P=[]:=by
 cases e:HD (Gw es he u) P with
 | nil=>rfl
 | cons p Q=>
  exfalso;obtain⟨r,hr,h1,h2⟩:=Hg.1 (by rw[e];exact A1m ..:p∈HD (Gw es he u) P);apply h2;have:∀b,b∈B7 r->¬Gw es he u b=true:=fun b hb=>by
   have:=h b (Bx.2 ⟨r,hr,hb⟩);unfold Gw;simp;omega
  rw[h1];unfold B7;rw[A3A];exact⟨List.filter_eq_nil_iff.2 fun b hb=>this b (AJ.2 (.inl hb)),List.filter_eq_nil_iff.2 fun b hb=>this b (AJ.2 (.inr hb))⟩
theorem R8{p:List Int×List Int}(h:∀b,b∈B7 p->he (AD es b)<he u):(p.1.filter (Gw es he u),p.2.filter (Gw es he u))=p:=by
 have:∀b,b∈B7 p->Gw es he u b=true:=fun b hb=>by unfold Gw;simpa using h b hb
 rw[A3D.2 fun b hb=>this b (AJ.2 (.inl hb)),A3D.2 fun b hb=>this b (AJ.2 (.inr hb))]
theorem XA(hf:∀p,p∈P->B7 p≠[])(h:∀b,b∈Bm P->he (AD es b)<he u):HD (Gw es he u) P=P:=by
 unfold HD;have e1:P.map (fun p=>(p.1.filter (Gw es he u),p.2.filter (Gw es he u)))=P:=by
  conv=>rhs;rw[<-List.map_id P]
  refine A2I fun p hp=>?_;exact R8 fun b hb=>h b (Bx.2 ⟨p,hp,hb⟩)
 rw[e1];exact A3D.2 fun p hp=>by simpa using hf p hp
theorem UH{Q R:PL}{k:Int->Bool}:HD k (Q++R)=HD k Q++HD k R:=by unfold HD;rw[A1Y,A2U]
theorem LV.start(hS:Sta lo ref (S++P) st)(hA:HM (FL es pa oi) U ref m)(hX:Hz es pa oi (Bm S++Bm P)):LV es pa he oi lo u m S P U ref st:=⟨P,[],by simp,by simp[Bm],hS,hA,hX⟩
theorem LV.nil(h:LV es pa he oi lo u m S P U ref []):S=[]/\HD (Gw es he u) P=[]/\HM (FL es pa oi) U ref m:=by
 obtain⟨Pr,Pd,rfl,h2,h3,h4,h5⟩:=h;have:=h3.length;simp at this;obtain⟨rfl,rfl⟩:=this;exact⟨rfl,by simpa using OZ h2,h4⟩
theorem LV.top(hF:CD es pa he oi N)(hL:B9 es pa he oi lo N out)(hp:LvP es pa he oi u S P)(h:LV es pa he oi lo u m S P U ref st)(hne:st≠[]):∃st' x,st=st'++[x]/\
  (x.1=noI->x.2≠noI)/\(∀i,i=x.1\/i=x.2->i≠noI->(0<=i.1/\i.1<es.length)/\0<=i.2/\i.2<es.length)/\
  (Wr lo x=he u->LV es pa he oi lo u m S P U ref st')/\
  (Wr lo x≠he u->∃T r,Sta lo ref T st'/\NN lo ref r x/\S++HD (Gw es he u) P=T++[(r.1.filter (Gw es he u),r.2.filter (Gw es he u))]/\Uq es pa he oi u (B7 r)/\Hz es pa oi (Bm T++B7 r)/\HM (FL es pa oi) U ref m/\(∀b,b∈B7 r->b∈Bm (S++P))):=by
 obtain⟨Pr,Pd,rfl,h2,h3,h4,h5⟩:=h;have common:∀{r:List Int×List Int} {x:IP},NN lo ref r x->B7 r≠[]->(∀b,b∈B7 r->DO es pa oi b)->(x.1=noI->x.2≠noI)/\(∀i,i=x.1\/i=x.2->i≠noI->(0<=i.1/\i.1<es.length)/\0<=i.2/\i.2<es.length):=fun{r x} hr hne hB=>by
  refine⟨fun c d=>hne ?_,fun i hi hni=>?_⟩
  .unfold B7;rw[Ep.1 (hr.1.emp.1 c),Ep.1 (hr.2.emp.1 d)];rfl
  rcases hi with rfl|rfl
  .exact hr.1.rng hF (fun b hb=>hB b (AJ.2 (.inl hb))) hni
  exact hr.2.rng hF (fun b hb=>hB b (AJ.2 (.inr hb))) hni
 rcases List.eq_nil_or_concat Pr with e|⟨Pr,r,e⟩
 .subst e;simp only[A1O,A1N] at h3 h5;rcases List.eq_nil_or_concat S with e|⟨T,r,e⟩
  .subst e;have:=h3.length;exact absurd (A3l.1 this.symm) hne
  rw[List.concat_eq_append] at e;subst e;obtain⟨st',x,rfl,h6,h7⟩:=h3.last;have hB:∀b,b∈B7 r->DO es pa oi b:=fun b hb=>h5.2 b (by simp[Bm,hb]);have hr:=hp.ful r (by simp);have hlow:∀b,b∈B7 r->he (AD es b)<he u:=fun b hb=>hp.low b (by simp[Bm,hb]);obtain⟨c1,c2⟩:=common h7 hr hB;obtain⟨⟨b,b1,b2⟩,_⟩:=RF hF hL h7 hB hr;refine⟨st',x,rfl,c1,c2,fun e=>?_,fun _=>⟨T,r,h6,h7,?_,fun b hb=>⟨hB b hb,by have:=hlow b hb;omega,fun c=>?_,fun c=>?_⟩,h5.sub ?_,h4,fun b hb=>by simp[Bm,hb]⟩⟩
  .have:=hlow b b1;omega
  .rw[A1N,OZ h2,R8 hlow,A1O]
  .rw[c]
  .have:=hlow b hb;omega
  simp[By,FJ]
 rw[List.concat_eq_append] at e;subst e;rw[<-A1L] at h3;obtain⟨st',x,rfl,h6,h7⟩:=h3.last;have hB:∀b,b∈B7 r->DO es pa oi b:=fun b hb=>h5.2 b (by simp[Bm,hb]);have hr:=hp.ful r (by simp);obtain⟨c1,c2⟩:=common h7 hr hB;obtain⟨⟨b,b1,b2⟩,b3⟩:=RF hF hL h7 hB hr;have hup:Uq es pa he oi u (B7 r):=hp.up.sub fun b hb=>by simp[Bm,hb]
 refine⟨st',x,rfl,c1,c2,fun e=>⟨Pr,[r]++Pd,by simp,fun y hy=>?_,h6,h4,h5⟩,fun hnu=>⟨S++Pr,r,h6,h7,?_,hup,h5.sub ?_,h4,fun b hb=>by simp[Bm,hb]⟩⟩
 .rw[By,FJ] at hy;rcases A1C.1 hy with g|g
  .have:=b3 y g;have:=(hup y g).2.1;omega
  exact h2 y g
 .have hlt:he (AD es b)<he u:=by have:=(hup b b1).2.1;omega
  have ho:=hp.ord;rw[A1L,A2s] at ho;have hPr:∀y,y∈Bm Pr->he (AD es y)<he u:=fun y hy=>by
   obtain⟨p,hp',hyp⟩:=Bx.1 hy;have:=ho.2.2 p hp' r (by simp) y b hyp b1;omega
  rw[UH,UH,OZ h2,XA (fun p hp'=>hp.ful p (by simp[hp'])) hPr,A1O,A1L]
  congr 2
  have:B7 (r.1.filter (Gw es he u),r.2.filter (Gw es he u))≠[]:=fun c=>by
   have hm:b∈B7 (r.1.filter (Gw es he u),r.2.filter (Gw es he u)):=by
    have hq:Gw es he u b=true:=by unfold Gw;simpa using hlt
    rcases AJ.1 b1 with g|g
    .exact AJ.2 (.inl (A1D.2 ⟨g,hq⟩))
    exact AJ.2 (.inr (A1D.2 ⟨g,hq⟩))
   rw[c] at hm;simp at hm
  unfold HD;rw[A1M,A3I,A3p (by simpa using this)]
  rfl
 simp only[By,FJ,A1L];exact List.Sublist.append_left (List.Sublist.append_left (A1J ..) _) _
theorem Oo(hF:CD es pa he oi N)(hT:Sta lo ref T st)(hr:NN lo ref r x)(hX:Hz es pa oi (Bm T++B7 r))(hA:HM (FL es pa oi) U ref m)(hU:∀b,b∈B7 r->U (b / 2))(h1:Z3 es he lo ref u r.1 x.1 x.2 ref1 l1):
  FE lo ref1 (eX r.2) x.2/\Sta lo ref1 T st/\HM (FL es pa oi) U ref1 m:=by
 have hn:=A1I.1 hX.1;have hne:=hn.2.1;unfold B7 at hne;rw[A1I] at hne;have bb:∀b,b∈B7 r->DO es pa oi b:=fun b hb=>hX.2 b (by simp[hb]);have d12:∀x,x∈eX r.1->x∉eX r.2:=Fy hF (fun b hb=>bb b (AJ.2 (.inl hb))) (fun b hb=>bb b (AJ.2 (.inr hb))) fun b h1 h2=>hne.2.2 b h1 b h2 rfl;have dT:∀x,x∈eX r.1->x∉eX (Bm T):=Fy hF (fun b hb=>bb b (AJ.2 (.inl hb))) (fun b hb=>hX.2 b (by simp[hb])) fun b h1 h2=>hn.2.2 b h2 b (AJ.2 (.inl h1)) rfl;exact⟨h1.rep hr.1 d12 hr.2,h1.sta hr.1 dT hT,h1.acy hr.1 (fun b hb=>hU b (AJ.2 (.inl hb))) hr.2 (fun b hb=>bb b (AJ.2 (.inr hb))) d12 hA⟩
theorem Wv(hF:CD es pa he oi N)(hT:Sta lo ref T st)(hr:NN lo ref r x)(hX:Hz es pa oi (Bm T++B7 r))(hA:HM (FL es pa oi) U ref m)(hU:∀b,b∈B7 r->U (b / 2))(h1:Z3 es he lo ref u r.1 x.1 x.2 ref1 l1)(h2:Z3 es he lo ref1 u r.2 x.2 l1 ref2 r1):
  Sta lo ref2 (T++[(r.1.filter (Gw es he u),r.2.filter (Gw es he u))]) (st++[(l1,r1)])/\HM (FL es pa oi) U ref2 m:=by
 obtain⟨q1,q2,q3⟩:=Oo hF hT hr hX hA hU h1;have hn:=A1I.1 hX.1;have hne:=hn.2.1;unfold B7 at hne;rw[A1I] at hne;have bb:∀b,b∈B7 r->DO es pa oi b:=fun b hb=>hX.2 b (by simp[hb]);have b1:∀b,b∈r.1.filter (Gw es he u)->DO es pa oi b:=fun b hb=>bb b (AJ.2 (.inl (A1D.1 hb).1));have b2:∀b,b∈r.2->DO es pa oi b:=fun b hb=>bb b (AJ.2 (.inr hb));have d21:∀x,x∈eX r.2->x∉eX (r.1.filter (Gw es he u)):=Fy hF b2 b1 fun b h1 h2=>hne.2.2 b (A1D.1 h2).1 b h1 rfl;have dT:∀x,x∈eX r.2->x∉eX (Bm T):=Fy hF b2 (fun b hb=>hX.2 b (by simp[hb])) fun b h1 h2=>hn.2.2 b h2 b (AJ.2 (.inr h1)) rfl;exact⟨.snoc (h2.sta q1 dT q2) ⟨h2.rep q1 d21 h1.1,h2.1⟩,h2.acy q1 (fun b hb=>hU b (AJ.2 (.inr hb))) h1.1 b1 d21 q3⟩
theorem Ew{S:PL}{e b:Int}(hF:CD es pa he oi N)(hB:¬FL es pa oi e)(e0:0<=e)(hS:Sta lo ref S st)(hX:∀b,b∈Bm S->DO es pa oi b)(hA:HM (FL es pa oi) U ref es.length)(hu:U e)(hb:b= -1\/(0<=b/\b<es.length/\FL es pa oi b)):Sta lo (HO ref e b) S st/\HM (FL es pa oi) U (HO ref e b) es.length:=by
 have hne:∀y,ref y≠e:=fun y c=>(hA.2.1 y).elim (fun g=>by omega) fun g=>hB (by rw[<-c];exact g);exact⟨hS.frame (fun c=>hB (Ji hX _ c)) (.inr hne),hA.upd2 hu hB e0 hb⟩
end
end
section
open Classical
section
variable(es:List Pr)(pa he oi lo:Int->Int)(N:Int)(out:Int->List Int)(Hm r:Int)
noncomputable def tv:Nat->Int->Nat
 | 0,_=>0
 | f+1,v=>((out v).map fun h=>2+if GP es pa oi h then tv f (AD es h) else 0).sum
noncomputable def wt(v:Int):Nat:=tv es pa oi out (Hm-he v).toNat v
noncomputable def WT(h:Int):Nat:=2+if GP es pa oi h then wt es pa he oi out Hm (AD es h) else 0
noncomputable def UD(l:List Int):Nat:=(l.map (WT es pa he oi out Hm)).sum
inductive NJ (bt lw:Int->Int):List (Int×Nat)->PL->PL->Nat->Prop
 | root {n:Nat} {P:PL}:0<=r->r<N->pa r<0->n<=(out r).length->Gx es pa he oi N ((out r).take n) P->NJ bt lw [(r,n)] [] P (UD es pa he oi out Hm ((out r).drop n))
 | push {l:List (Int×Nat)} {u:Int} {i:Nat} {S P Q:PL} {μ n:Nat} {h:Int}:NJ bt lw (l++[(u,i)]) S P (μ+2+wt es pa he oi out Hm (AD es h))->(out u)[i]? =some h->GP es pa oi h->bt (h / 2)=(S++P).length->n<=(out (AD es h)).length->
   Gx es pa he oi N ((out (AD es h)).take n) Q->(Q≠[]->∃y,ID es pa he oi ((out (AD es h)).take n) y/\lw (h / 2)=y / 2)->NJ bt lw (l++[(u,i)]++[(AD es h,n)]) (S++P) Q (μ+1+UD es pa he oi out Hm ((out (AD es h)).drop n))
def Und(h b:Int):Prop:=b=h\/(GP es pa oi h/\BJ es pa (AD es h) (Aj es b))
def Us(L:List (Int×Nat))(b:Int):Prop:=∃p,p∈L/\∃h,h∈(out p.1).take p.2/\Und es pa oi h b
def Old(b:Int):Prop:=∃r',pa r'<0/\r'<r/\BJ es pa r' (Aj es b)
def UW(L:List (Int×Nat))(x:Int):Prop:=¬FL es pa oi x\/Us es pa oi out L (oi x)\/Old es pa r (oi x)
def WS(bt lw ref:Int->Int)(L:List (Int×Nat))(S P:PL)(μ:Nat)(st:List IP):Prop:=NJ es pa he oi N out Hm r bt lw L S P μ/\Sta lo ref (S++P) st/\HM (FL es pa oi) (UW es pa oi out r L) ref es.length/\Hz es pa oi (Bm S++Bm P)
def PJ(bt lw ref:Int->Int)(l:List (Int×Nat))(v:Int)(n:Nat)(h:Int)(μ:Nat)(st:List IP):Prop:=∃S P Q,NJ es pa he oi N out Hm r bt lw (l++[(v,n)]) S P (μ+WT es pa he oi out Hm h)/\(out v)[n]? =some h/\Gx es pa he oi N [h] Q/\Sta lo ref (S++(P++Q)) st/\HM (FL es pa oi) (UW es pa oi out r (l++[(v,n+1)])) ref es.length/\Hz es pa oi (Bm S++(Bm P++Bm Q))/\bt (h / 2)=(S++P).length/\(Q≠[]->∃y,ID es pa he oi [h] y/\lw (h / 2)=y / 2)
end
section
variable{es:List Pr}{pa he oi lo:Int->Int}{N:Int}{out:Int->List Int}{Hm r:Int}{bt lw bt' lw' ref:Int->Int}{l L:List (Int×Nat)}{S P Q:PL}{μ n i:Nat}{h u v b:Int}{st:List IP}
theorem HM.mono{B U V:Int->Prop}{m:Int}(h:HM B U ref m)(hs:∀x,U x->V x):HM B V ref m:=⟨h.1,h.2.1,fun y hy=>hs y (h.2.2 y hy)⟩
theorem wt_eq(hF:CD es pa he oi N)(hL:B9 es pa he oi lo N out)(hH:∀v,0<=v->v<N->he v<Hm)(v0:0<=v)(v1:v<N):wt es pa he oi out Hm v=UD es pa he oi out Hm (out v):=by
 have h1:=hH v v0 v1;unfold wt UD;obtain⟨k,hk⟩:∃k,(Hm-he v).toNat=k+1:=⟨(Hm-he v).toNat-1,by omega⟩;rw[hk,tv]
 congr 1
 refine A2I fun h hh=>?_;obtain⟨a1,a2⟩:=(hL.mem v v0 v1 h).1 hh;unfold WT;by_cases c:GP es pa oi h
 .rw[if_pos c,if_pos c];unfold wt;have:=(hF.tree c).1;rw[a2] at this;have e:(Hm-he (AD es h)).toNat=k:=by omega
  rw[e]
 rw[if_neg c,if_neg c]
theorem QA(hn:(out v)[n]? =some h):UD es pa he oi out Hm ((out v).drop n)=WT es pa he oi out Hm h+UD es pa he oi out Hm ((out v).drop (n+1)):=by
 obtain⟨h1,h2⟩:=A1e.1 hn;rw[A2e h1,h2];unfold UD;rw[A1M,A2l]
theorem IC{α:Type}{l:List α}{a b:α}(h:l++[a]=[b]):l=[]/\a=b:=by
 cases l with
 | nil=>exact⟨rfl,by simpa using h⟩
 | cons x l=>simp at h
theorem In{α:Type}{l:List α}{n:Nat}{h:α}(hn:l[n]? =some h):l.take (n+1)=l.take n++[h]:=by
 rw[A1W,hn];rfl
theorem NJ.top(hF:CD es pa he oi N)(hL:B9 es pa he oi lo N out)(hw:NJ es pa he oi N out Hm r bt lw (l++[(v,n)]) S P μ):(0<=v/\v<N)/\n<=(out v).length/\Gx es pa he oi N ((out v).take n) P/\BJ es pa r v/\pa r<0/\(0<=r/\r<N)/\(∀p,p∈l->he p.1<he v/\∃c,(out p.1)[p.2]? =some c/\GP es pa oi c/\Aj es c=p.1/\(0<=p.1/\p.1<N)/\BJ es pa (AD es c) v):=by
 generalize e:l++[(v,n)]=M at hw
 induction hw generalizing l v n with
 | root h0 h1 h2 h3 h4=>
  obtain⟨rfl,e2⟩:=IC e;simp at e2;obtain⟨rfl,rfl⟩:=e2;exact⟨⟨h0,h1⟩,h3,h4,.refl,h2,⟨h0,h1⟩,by simp⟩
 | @push l' u i S P Q μ n' h hw h1 h2 h3 h4 h5 h6 ih=>
  obtain⟨rfl,e2⟩:=A2Y e rfl;simp at e2;obtain⟨rfl,rfl⟩:=e2;obtain⟨i1,i2,i3,i4,i5,i6,i7⟩:=ih rfl;have hr:=hF.rng h2.1.1;obtain⟨t1,t2⟩:=hF.tree h2;have a1:=(hL.mem u i1.1 i1.2 h).1 (A1h h1);rw[a1.2] at t1 t2;refine⟨hr.2,h4,h5,t2.trans i4,i5,i6,fun p hp=>?_⟩;rcases A1C.1 hp with hp|hp
  .obtain⟨g1,c,g2,g3,g4,g5,g6⟩:=i7 p hp;exact⟨by omega,c,g2,g3,g4,g5,t2.trans g6⟩
  simp at hp;subst hp;exact⟨by dsimp only;omega,h,h1,h2,a1.2,i1,.refl⟩
theorem NJ.low(hF:CD es pa he oi N)(hL:B9 es pa he oi lo N out)(hw:NJ es pa he oi N out Hm r bt lw (l++[(v,n)]) S P μ):(∀b,b∈Bm (S++P)->he (AD es b)<he v)/\∀p,p∈S++P->B7 p≠[]:=by
 generalize e:l++[(v,n)]=M at hw;have ret:∀{v n P b},(0<=v/\v<N)->Gx es pa he oi N ((out v).take n) P->b∈Bm P->he (AD es b)<he v:=fun{v n P b} hv hS hb=>by
  obtain⟨h,hh,hr⟩:=(hS.cov b).2 hb;have:=hr.2.1;rw[((hL.mem v hv.1 hv.2 h).1 (A2W hh)).2] at this;exact this
 induction hw generalizing l v n with
 | root h0 h1 h2 h3 h4=>
  obtain⟨rfl,e2⟩:=IC e;simp at e2;obtain⟨rfl,rfl⟩:=e2;exact⟨fun b hb=>ret ⟨h0,h1⟩ h4 (by simpa using hb),fun p hp=>h4.ful p (by simpa using hp)⟩
 | @push l' u i S P Q μ n' h hw h1 h2 h3 h4 h5 h6 ih=>
  obtain⟨rfl,e2⟩:=A2Y e rfl;simp at e2;obtain⟨rfl,rfl⟩:=e2;obtain⟨i1,i2⟩:=ih rfl;have ht:=hw.top hF hL;have a1:=(hL.mem u ht.1.1 ht.1.2 h).1 (A1h h1);have t1:=(hF.tree h2).1;rw[a1.2] at t1;refine⟨fun b hb=>?_,fun p hp=>?_⟩
  .rw[By] at hb;rcases A1C.1 hb with g|g
   .have:=i1 b g;omega
   exact ret (hF.rng h2.1.1).2 h5 g
  rcases A1C.1 hp with g|g
  .exact i2 p g
  exact h5.ful p g
theorem NJ.pop(hw:NJ es pa he oi N out Hm r bt lw (L++[(v,n)]) S Q μ)(hl:L≠[]):∃l u i S0 P0 μ0 h,L=l++[(u,i)]/\S=S0++P0/\NJ es pa he oi N out Hm r bt lw (l++[(u,i)]) S0 P0 (μ0+2+wt es pa he oi out Hm (AD es h))/\(out u)[i]? =some h/\GP es pa oi h/\AD es h=v/\bt (h / 2)=(S0++P0).length/\Gx es pa he oi N ((out v).take n) Q/\(Q≠[]->∃y,ID es pa he oi ((out v).take n) y/\lw (h / 2)=y / 2)/\μ=μ0+1+UD es pa he oi out Hm ((out v).drop n):=by
 generalize e:L++[(v,n)]=M at hw;cases hw with
 | root h0 h1 h2 h3 h4=>
  obtain⟨rfl,e2⟩:=IC e;exact absurd rfl hl
 | @push l' u i S P Q μ n' h hw h1 h2 h3 h4 h5 h6=>
  obtain⟨rfl,e2⟩:=A2Y e rfl;simp at e2;obtain⟨rfl,rfl⟩:=e2;exact⟨l',u,i,S,P,μ,h,rfl,rfl,hw,h1,h2,rfl,h3,h5,h6,rfl⟩
theorem NJ.frame(hw:NJ es pa he oi N out Hm r bt lw L S P μ)(hf:∀x,GP es pa oi x->(∃p,p∈L/\AD es x=p.1)->bt' (x / 2)=bt (x / 2)/\lw' (x / 2)=lw (x / 2)):NJ es pa he oi N out Hm r bt' lw' L S P μ:=by
 induction hw with
 | root h0 h1 h2 h3 h4=>exact .root h0 h1 h2 h3 h4
 | @push l' u i S P Q μ n' h hw h1 h2 h3 h4 h5 h6 ih=>
  obtain⟨e1,e2⟩:=hf h h2 ⟨_,A2N _ (A2F.2 rfl),rfl⟩;exact .push (ih fun x hx ⟨p,hp,hxp⟩=>hf x hx ⟨p,A2w _ hp,hxp⟩) h1 h2 (by rw[e1];exact h3) h4 h5 (by rw[e2];exact h6)
theorem NJ.lowc(hw:NJ es pa he oi N out Hm r bt lw (l++[(v,n)]) S P μ):0<=pa v->P≠[]->∃y,ID es pa he oi ((out v).take n) y/\lw (pa v / 2)=y / 2:=by
 generalize e:l++[(v,n)]=M at hw;cases hw with
 | root h0 h1 h2 h3 h4=>
  obtain⟨rfl,e2⟩:=IC e;simp at e2;obtain⟨rfl,rfl⟩:=e2;intro h;omega
 | @push l' u i S P Q μ n' h hw h1 h2 h3 h4 h5 h6=>
  obtain⟨rfl,e2⟩:=A2Y e rfl;simp at e2;obtain⟨rfl,rfl⟩:=e2;intro _ hq;rw[h2.2];exact h6 hq
theorem NJ.next{P':PL}(hw:NJ es pa he oi N out Hm r bt lw (l++[(v,n)]) S P (μ+WT es pa he oi out Hm h))(hn:(out v)[n]? =some h)(hP:Gx es pa he oi N ((out v).take (n+1)) P')(hlow:0<=pa v->P'≠[]->∃y,ID es pa he oi ((out v).take (n+1)) y/\lw' (pa v / 2)=y / 2)
 (hf:∀x,GP es pa oi x->(∃p,p∈l/\AD es x=p.1)->bt' (x / 2)=bt (x / 2)/\lw' (x / 2)=lw (x / 2))(hb:0<=pa v->bt' (pa v / 2)=bt (pa v / 2)):NJ es pa he oi N out Hm r bt' lw' (l++[(v,n+1)]) S P' μ:=by
 have hlt:=(A1e.1 hn).1;have hd:=QA (es:=es) (pa:=pa) (he:=he) (oi:=oi) (Hm:=Hm) hn;generalize e:l++[(v,n)]=M at hw;generalize em:μ+WT es pa he oi out Hm h=M' at hw;cases hw with
 | root h0 h1 h2 h3 h4=>
  obtain⟨rfl,e2⟩:=IC e;simp at e2;obtain⟨rfl,rfl⟩:=e2;have:μ=UD es pa he oi out Hm ((out v).drop (n+1)):=by omega
  rw[this];exact .root h0 h1 h2 (by omega) hP
 | @push l' u i S P Q μ' n' k hw h1 h2 h3 h4 h5 h6=>
  obtain⟨rfl,e2⟩:=A2Y e rfl;simp at e2;obtain⟨rfl,rfl⟩:=e2;have:μ=μ'+1+UD es pa he oi out Hm ((out (AD es k)).drop (n+1)):=by omega
  rw[this];have hk:pa (AD es k)=k:=h2.2;rw[hk] at hlow hb;have k0:0<=k:=h2.1.1.1;exact .push (hw.frame hf) h1 h2 (by rw[hb k0];exact h3) (by omega) hP (hlow k0)
theorem NJ.fresh(hF:CD es pa he oi N)(hL:B9 es pa he oi lo N out)(hw:NJ es pa he oi N out Hm r bt lw (l++[(v,n)]) S P μ)(hn:(out v)[n]? =some h):¬Us es pa oi out (l++[(v,n)]) h/\¬Old es pa r h:=by
 obtain⟨t1,t2,t3,t4,t5,t6,t7⟩:=hw.top hF hL;have a1:=(hL.mem v t1.1 t1.2 h).1 (A1h hn);have nn:∀{w:Int} {m:Nat} {c:Int},(0<=w/\w<N)->(out w)[m]? =some c->c∉(out w).take m:=fun{w m c} hw hc hm=>by
  have:=hL.nod w hw.1 hw.2;obtain⟨k,hk⟩:=A1j.1 hm;rw[A2j] at hk;split at hk
  .rename_i hlt;obtain⟨l1,e1⟩:=A1e.1 hk;obtain⟨l2,e2⟩:=A1e.1 hc;exact A2t.1 this k m l1 l2 hlt (e1.trans e2.symm)
  simp at hk
 constructor
 .rintro⟨p,hp,k,hk,hu⟩;rcases A1C.1 hp with hp|hp
  .obtain⟨g1,c,g2,g3,g4,g5,g6⟩:=t7 p hp;obtain⟨b1,b2⟩:=(hL.mem p.1 g5.1 g5.2 k).1 (A2W hk);rcases hu with e|⟨u1,u2⟩
   .subst e;rw[a1.2] at b2;rw[b2] at g1;omega
   rw[a1.2] at u2;have e1:=(hF.tree u1).1;have e2:=(hF.tree g3).1;have:=u2.same hF g6 t1.1 t1.2 (by rw[e1,e2,b2,g4]);have:k=c:=by rw[<-u1.2,this,g3.2]
   subst this;exact nn g5 g2 hk
  simp at hp;subst hp;obtain⟨b1,b2⟩:=(hL.mem v t1.1 t1.2 k).1 (A2W hk);rcases hu with e|⟨u1,u2⟩
  .subst e;exact nn t1 hn hk
  rw[a1.2] at u2;have e1:=(hF.tree u1).1;rcases(u2.le hF t1.1 t1.2).2 with g|g
  .rw[g,b2] at e1;omega
  rw[b2] at e1;omega
 rintro⟨r',h1,h2,h3⟩;rw[a1.2] at h3;have:=QZ hF t1.1 t1.2 h1 t5 h3 t4;omega
theorem NJ.apart(hF:CD es pa he oi N)(hL:B9 es pa he oi lo N out)(hw:NJ es pa he oi N out Hm r bt lw (l++[(v,n)]) S P μ)(hn:(out v)[n]? =some h){x:Int}(hx:GP es pa oi x)(hp:∃p,p∈l++[(v,n)]/\AD es x=p.1):x / 2≠h / 2:=fun e=>by
 obtain⟨t1,t2,t3,t4,t5,t6,t7⟩:=hw.top hF hL;have a1:=(hL.mem v t1.1 t1.2 h).1 (A1h hn);have:=(hF.orn_ne hx.1 a1.1).1 e;subst this;have e1:=(hF.tree hx).1;rw[a1.2] at e1;obtain⟨p,hp,e2⟩:=hp;rcases A1C.1 hp with hp|hp
 .have:=(t7 p hp).1;rw[e2] at e1;omega
 simp at hp;subst hp;rw[e2] at e1;dsimp only at e1;omega
theorem NJ.parent(hF:CD es pa he oi N)(hL:B9 es pa he oi lo N out)(hw:NJ es pa he oi N out Hm r bt lw (l++[(v,n)]) S P μ)(h0:0<=pa v){x:Int}(hx:GP es pa oi x)(hp:∃p,p∈l/\AD es x=p.1):x / 2≠pa v / 2:=fun e=>by
 obtain⟨t1,t2,t3,t4,t5,t6,t7⟩:=hw.top hF hL;obtain⟨q1,q2,_⟩:=hF.par t1.1 t1.2 h0;have:=(hF.orn_ne hx.1 q1.1).1 e;subst this;obtain⟨p,hp,e2⟩:=hp;have:=(t7 p hp).1;rw[<-e2,q2] at this;omega
theorem Us.app{L':List (Int×Nat)}:Us es pa oi out (L++L') b↔Us es pa oi out L b\/Us es pa oi out L' b:=by
 unfold Us;constructor
 .rintro⟨p,hp,h⟩;rcases A1C.1 hp with g|g
  .exact .inl ⟨p,g,h⟩
  exact .inr ⟨p,g,h⟩
 rintro(⟨p,hp,h⟩|⟨p,hp,h⟩)
 .exact⟨p,A2w _ hp,h⟩
 exact⟨p,A2N _ hp,h⟩
theorem Us.more{m:Nat}(hm:n<=m)(h:Us es pa oi out (l++[(v,n)]) b):Us es pa oi out (l++[(v,m)]) b:=by
 rcases Us.app.1 h with g|⟨p,hp,k,hk,hu⟩
 .exact Us.app.2 (.inl g)
 simp at hp;subst hp;refine Us.app.2 (.inr ⟨(v,m),by simp,k,?_,hu⟩);dsimp only at hk ⊢;exact List.take_subset_take_left _ hm hk
theorem UW.more{m:Nat}(hm:n<=m){x:Int}(h:UW es pa oi out r (l++[(v,n)]) x):UW es pa oi out r (l++[(v,m)]) x:=h.imp id fun g=>g.imp (Us.more hm) id
theorem UW.up(hF:CD es pa he oi N)(hL:B9 es pa he oi lo N out){u:Int}{i:Nat}{x:Int}(hu:0<=u/\u<N)(hi:(out u)[i]? =some h)(ht:GP es pa oi h)(hU:UW es pa oi out r (l++[(u,i)]++[(AD es h,n)]) x):UW es pa oi out r (l++[(u,i+1)]) x:=by
 refine hU.imp id fun g=>g.imp (fun g=>?_) id;rcases Us.app.1 g with g|⟨p,hp,k,hk,hu'⟩
 .exact Us.more (Nat.le_succ _) g
 simp at hp;subst hp;have hv:=(hF.rng ht.1.1).2;obtain⟨b1,b2⟩:=(hL.mem _ hv.1 hv.2 k).1 (A2W hk);refine Us.app.2 (.inr ⟨(u,i+1),by simp,h,by dsimp only;rw[In hi];simp,.inr ⟨ht,?_⟩⟩);rcases hu' with e|⟨u1,u2⟩
 .rw[e,b2];exact .refl
 have:=(hF.tree u1).2;rw[b2] at this;exact u2.trans this
end
end
section
open Classical
section
variable{es:List Pr}{pa he oi lo:Int->Int}{N:Int}{out:Int->List Int}{Hm r:Int}{bt lw bt' lw' ref:Int->Int}{l L:List (Int×Nat)}{S P Q:PL}{μ n i:Nat}{h u v b:Int}{st:List IP}
theorem L8{D:List Int}(hS:Gx es pa he oi N D P)(h:∀b,¬Xs es pa he oi D b):P=[]:=by
 cases P with
 | nil=>rfl
 | cons p P=>
  exfalso;obtain⟨x,hx⟩:=A2i _ (hS.ful p (by simp));exact h x ((hS.cov x).2 (Bx.2 ⟨p,by simp,hx⟩))
theorem QT{D:List Int}(hS:Gx es pa he oi N D P)(h:Xs es pa he oi D b):P≠[]:=fun e=>by
 have:=(hS.cov b).1 h;rw[e] at this;simp[Bm] at this
theorem N4(hF:CD es pa he oi N)(hL:B9 es pa he oi lo N out)(r0:0<=r)(r1:r<N)(hr:pa r<0){D:List Int}(hD:∀h,h∈D->h∈out r):∀b,¬Xs es pa he oi D b:=fun b ⟨k,hk,hrt⟩=>by
 obtain⟨a1,a2⟩:=(hL.mem r r0 r1 k).1 (hD k hk);have hz:he r=0:=by
  rcases hF.up r r0 r1 with q|q
  .exact q.2
  have:=q.1.1;omega
 have:=hrt.2.1;have g:=hF.rng hrt.1.1.1;have:=hF.pos _ g.2.1 g.2.2;rw[a2] at *;omega
theorem NJ.us(hw:NJ es pa he oi N out Hm r bt lw L S P μ):∀b,b∈Bm (S++P)->Us es pa oi out L b:=by
 have ret:∀{v n P b},Gx es pa he oi N ((out v).take n) P->b∈Bm P->Us es pa oi out [(v,n)] b:=fun{v n P b} hS hb=>by
  obtain⟨h,hh,hr⟩:=(hS.cov b).2 hb;exact⟨(v,n),by simp,h,hh,hr.2.2⟩
 induction hw with
 | root h0 h1 h2 h3 h4=>exact fun b hb=>ret h4 (by simpa using hb)
 | @push l' u i S P Q μ n' h hw h1 h2 h3 h4 h5 h6 ih=>
  intro b hb;rw[By] at hb;rcases A1C.1 hb with g|g
  .exact Us.app.2 (.inl (ih b g))
  exact Us.app.2 (.inr (ret h5 g))
theorem NJ.cost(hw:NJ es pa he oi N out Hm r bt lw (l++[(v,n)]) S P μ)(hn:(out v)[n]? =some h):∃μ',μ=μ'+WT es pa he oi out Hm h:=by
 have hd:=QA (es:=es) (pa:=pa) (he:=he) (oi:=oi) (Hm:=Hm) hn;generalize e:l++[(v,n)]=M at hw;cases hw with
 | root h0 h1 h2 h3 h4=>
  obtain⟨rfl,e2⟩:=IC e;simp at e2;obtain⟨rfl,rfl⟩:=e2;exact⟨_,by rw[hd,Nat.add_comm]⟩
 | @push l' u i S P Q μ' n' k hw h1 h2 h3 h4 h5 h6=>
  obtain⟨rfl,e2⟩:=A2Y e rfl;simp at e2;obtain⟨rfl,rfl⟩:=e2;exact⟨μ'+1+UD es pa he oi out Hm ((out (AD es k)).drop (n+1)),by rw[hd];omega⟩
def U0(es:List Pr)(pa oi:Int->Int)(r:Int)(x:Int):Prop:=¬FL es pa oi x\/Old es pa r (oi x)
theorem Xr(r0:0<=r)(r1:r<N)(hp:pa r<0)(hA:HM (FL es pa oi) (U0 es pa oi r) ref es.length):WS es pa he oi lo N out Hm r bt lw ref ([]++[(r,0)]) [] [] (UD es pa he oi out Hm (out r)) []:=
 ⟨by simpa using NJ.root (bt:=bt) (lw:=lw) (Hm:=Hm) r0 r1 hp (A1E _) (by simpa using UK),.nil,hA.mono fun x hx=>hx.imp id .inr,by simp[Bm],by simp[Bm]⟩
theorem ws_end(hF:CD es pa he oi N)(hL:B9 es pa he oi lo N out)(hw:WS es pa he oi lo N out Hm r bt lw ref ([]++[(v,n)]) S P μ st)(hn:(out v).length<=n):v=r/\st=[]/\(∃P,Gx es pa he oi N (out r) P)/\HM (FL es pa oi) (U0 es pa oi (r+1)) ref es.length:=by
 obtain⟨h1,h2,h3,h4⟩:=hw;have ht:=h1.top hF hL;generalize e:[]++[(v,n)]=M at h1 h3;cases h1 with
 | @root n' P g0 g1 g2 g3 g4=>
  simp at e;obtain⟨rfl,rfl⟩:=e;have e:(out v).take n=out v:=A2Z hn;have hP:P=[]:=L8 g4 (N4 hF hL g0 g1 g2 fun h hh=>A2W hh);subst hP;refine⟨rfl,?_,⟨[],by rw[e] at g4;exact g4⟩,h3.mono fun x hx=>hx.imp id fun g=>?_⟩
  .have:=h2.length;exact A3l.1 (by simpa using this.symm)
  rcases g with⟨p,hp,k,hk,hu⟩|⟨r',q1,q2,q3⟩
  .simp at hp;subst hp;obtain⟨b1,b2⟩:=(hL.mem v g0 g1 k).1 (A2W hk);refine⟨v,g2,by omega,?_⟩;rcases hu with e|⟨u1,u2⟩
   .rw[e,b2];exact .refl
   have:=(hF.tree u1).2;rw[b2] at this;exact u2.trans this
  exact⟨r',q1,by omega,q3⟩
 | @push l' u i S P Q μ' n' k hw h1 h2 h3 h4 h5 h6=>exact absurd (congrArg List.length e) (by simp)
theorem A0p(hF:CD es pa he oi N)(hL:B9 es pa he oi lo N out)(hH:∀v,0<=v->v<N->he v<Hm)(hw:WS es pa he oi lo N out Hm r bt lw ref (l++[(v,n)]) S P μ st)(hn:(out v)[n]? =some h)(ht:GP es pa oi h):
  ∃μ',μ'<μ/\WS es pa he oi lo N out Hm r (HO bt (h / 2) st.length) lw ref (l++[(v,n)]++[(AD es h,0)]) (S++P) [] μ' st:=by
 obtain⟨h1,h2,h3,h4⟩:=hw;obtain⟨μ0,rfl⟩:=h1.cost hn;have hv:=(hF.rng ht.1.1).2;have e1:WT es pa he oi out Hm h=2+wt es pa he oi out Hm (AD es h):=by unfold WT;rw[if_pos ht]
 have e2:=wt_eq hF hL hH hv.1 hv.2;have h1':=h1.frame (bt':=HO bt (h / 2) st.length) (lw':=lw) fun x hx hp=>⟨Dq (h1.apart hF hL hn hx hp),rfl⟩;have e3:μ0+WT es pa he oi out Hm h=μ0+2+wt es pa he oi out Hm (AD es h):=by omega
 rw[e3] at h1';refine⟨μ0+1+UD es pa he oi out Hm ((out (AD es h)).drop 0),by rw[List.drop_zero];omega,.push h1' hn ht (by rw[Dr,h2.length]) (A1E _) (by simpa using UK) (fun h=>absurd rfl h),by simpa using h2,h3.mono fun x hx=>hx.imp id fun g=>g.imp (fun g=>Us.app.2 (.inl g)) id,?_⟩;rw[By];simpa [Bm] using h4
theorem A0q(hF:CD es pa he oi N)(hL:B9 es pa he oi lo N out)(hw:WS es pa he oi lo N out Hm r bt lw ref (l++[(v,n)]) S P μ st)(hn:(out v)[n]? =some h)(hb:DO es pa oi h):
  ∃μ',μ'<μ/\PJ es pa he oi lo N out Hm r (HO bt (h / 2) st.length) (HO lw (h / 2) (h / 2)) ref l v n h μ' (st++[(noI,(h / 2,h / 2))]):=by
 obtain⟨h1,h2,h3,h4⟩:=hw;obtain⟨μ0,rfl⟩:=h1.cost hn;have hfr:=h1.fresh hF hL hn;have e0:oi (h / 2)=h:=hb.1.2;have hB:FL es pa oi (h / 2):=bke hb;have hh0:0<=h / 2:=by have:=hb.1.1.1;omega
 have href:ref (h / 2)= -1:=Classical.byContradiction fun c=>by
  rcases h3.2.2 _ c with g|g|g
  .exact g hB
  .rw[e0] at g;exact hfr.1 g
  rw[e0] at g;exact hfr.2 g
 have h1':=h1.frame (bt':=HO bt (h / 2) st.length) (lw':=HO lw (h / 2) (h / 2)) fun x hx hp=>⟨Dq (h1.apart hF hL hn hx hp),Dq (h1.apart hF hL hn hx hp)⟩;have hlo:ID es pa he oi [h] h:=⟨⟨h,by simp,Rt.self hF hb⟩,fun c ⟨k,hk,hr⟩=>by
  simp at hk;subst hk;rw[Dh hb hr];exact A2g _⟩;refine⟨μ0,by unfold WT;omega,S,P,[([],[h])],h1',hn,XS hF hb,?_,h3.mono fun x hx=>hx.more (Nat.le_succ _),?_,by rw[Dr,h2.length],fun _=>⟨h,hlo,Dr⟩⟩
 .rw[<-A1L];exact .snoc h2 ⟨by simpa [eX] using FE.nil,by simpa [eX] using FE.one href hh0⟩
 have hx:h∉Bm S++Bm P:=fun c=>hfr.1 (h1.us h (by rw[By];exact c));rw[<-A1L];refine⟨?_,fun b hbm=>?_⟩
 .rw[A1I];exact⟨h4.1,by simp[Bm,B7],fun a ha b hbm e=>by
   simp[Bm,B7] at hbm;subst hbm;subst e;exact hx ha⟩
 rcases A1C.1 hbm with g|g
 .exact h4.2 b g
 simp[Bm,B7] at g;subst g;exact hb
/-! ### joining -/
theorem YF{D:List Int}{e y b0 e0:Int}(hJ:Jn es pa he oi N v D e b0 e0)(hy:ID es pa he oi D y):ID es pa he oi (D++[e]) y:=⟨Xs.app.2 (.inl hy.1),fun c hc=>by
 rcases Xs.app.1 hc with g|g
 .exact hy.2 c g
 have:=hy.2 b0 hJ.lo.1;have:=hJ.le.2 c g;have:=hJ.low;omega⟩
theorem A0Q(hF:CD es pa he oi N)(hL:B9 es pa he oi lo N out)(hp:PJ es pa he oi lo N out Hm r bt lw ref l v n h μ st)(hlo:he v<=lo (h / 2)):∃S P,WS es pa he oi lo N out Hm r bt lw ref (l++[(v,n+1)]) S P μ st:=by
 obtain⟨S,P,Q,h1,h2,h3,h4,h5,h6,h7,h8⟩:=hp;have ht:=h1.top hF hL;have a1:=(hL.mem v ht.1.1 ht.1.2 h).1 (A1h h2);have hno:∀b,¬Xs es pa he oi [h] b:=fun b ⟨k,hk,hr⟩=>by
  simp at hk;subst hk;have:=(hL.lt a1.1).1 ⟨b,hr⟩;rw[a1.2] at this;omega
 have hQ:=L8 h3 hno;subst hQ;have nn:=hL.nod v ht.1.1 ht.1.2;have e1:=In h2;have hout:Outs es oi v ((out v).take n++[h]):=⟨fun k hk=>(hL.mem v ht.1.1 ht.1.2 k).1 (A2W (by rw[<-e1] at hk;exact hk))⟩;have hnew:h∉(out v).take n:=fun c=>by
  have h9:=List.Nodup.sublist (List.take_sublist (n+1) (out v)) nn;rw[e1,A1I] at h9;exact h9.2.2 h c h (by simp) rfl
 have hS:=XR hF hout hnew ht.2.2.1 h3;rw[<-e1] at hS;refine⟨S,P,h1.next h2 hS (fun p0 hne=>?_) (fun _ _ _=>⟨rfl,rfl⟩) (fun _=>rfl),by simpa using h4,h5,by simpa [Bm] using h6⟩;obtain⟨y,y1,y2⟩:=h1.lowc p0 hne;refine⟨y,?_,y2⟩;rw[e1];exact⟨Xs.app.2 (.inl y1.1),fun c hc=>(Xs.app.1 hc).elim (y1.2 c) fun g=>absurd g (hno c)⟩
theorem Tu(hF:CD es pa he oi N)(hL:B9 es pa he oi lo N out)(hp:PJ es pa he oi lo N out Hm r bt lw ref l v n h μ st)(hlo:lo (h / 2)<he v):0<=pa v:=by
 obtain⟨S,P,Q,h1,h2,h3,h4,h5,h6,h7,h8⟩:=hp;have ht:=h1.top hF hL;have a1:=(hL.mem v ht.1.1 ht.1.2 h).1 (A1h h2);refine Classical.byContradiction fun c=>?_;obtain⟨b,hb⟩:=(hL.lt a1.1).2 (by rw[a1.2];exact hlo);exact N4 hF hL ht.1.1 ht.1.2 (by omega) (D:=[h]) (fun k hk=>by simp at hk;subst hk;exact A1h h2) b ⟨h,by simp,hb⟩
theorem X9(hF:CD es pa he oi N)(hL:B9 es pa he oi lo N out)(hp:PJ es pa he oi lo N out Hm r bt lw ref l v 0 h μ st)(hlo:lo (h / 2)<he v):∃S P,WS es pa he oi lo N out Hm r bt (HO lw (pa v / 2) (lw (h / 2))) ref (l++[(v,1)]) S P μ st:=by
 have hpv:=Tu hF hL hp hlo;obtain⟨S,P,Q,h1,h2,h3,h4,h5,h6,h7,h8⟩:=hp;have ht:=h1.top hF hL;have hP:P=[]:=L8 ht.2.2.1 (by rintro b ⟨k,hk,_⟩;simp at hk);subst hP;have e1:(out v).take (0+1)=[h]:=by rw[In h2];simp
 refine⟨S,Q,h1.next h2 (by rw[e1];exact h3) (fun p0 hne=>?_) (fun x hx hp=>⟨rfl,Dq (h1.parent hF hL hpv hx hp)⟩) (fun _=>rfl),by simpa using h4,h5,by simpa [Bm] using h6⟩;obtain⟨y,y1,y2⟩:=h8 hne;exact⟨y,by rw[e1];exact y1,by rw[Dr];exact y2⟩
theorem A0R(hF:CD es pa he oi N)(hL:B9 es pa he oi lo N out)(hp:PJ es pa he oi lo N out Hm r bt lw ref l v n h μ st)(hn:0<n)(hlo:lo (h / 2)<he v):∃S p0 Pt b0 e0 y0,Jn es pa he oi N v ((out v).take n) h b0 e0/\Gx es pa he oi N ((out v).take n) (p0::Pt)/\ID es pa he oi ((out v).take n) y0/\lw (pa v / 2)=y0 / 2/\
  (∀b,Xs es pa he oi ((out v).take n++[h]) b->UW es pa oi out r (l++[(v,n+1)]) (b / 2))/\C1 es pa he oi lo N h b0 es.length S p0 Pt (UW es pa oi out r (l++[(v,n+1)])) ref st noI/\bt (h / 2)=(S.length+Pt.length+1:Nat)/\lo (h / 2)=he (AD es e0)/\lo (pa v / 2)=he (AD es b0)/\
  (∀ref' st',JR es pa he oi lo N ((out v).take n++[h]) es.length S (UW es pa oi out r (l++[(v,n+1)])) ref' st'->∃S P,WS es pa he oi lo N out Hm r bt lw ref' (l++[(v,n+1)]) S P μ st')/\
  ((∀s,¬Nk es pa he oi N s ((out v).take n++[h]))->¬∃s,VM es pa he oi s):=by
 have hpv:=Tu hF hL hp hlo;obtain⟨S,P,Q,h1,h2,h3,h4,h5,h6,h7,h8⟩:=hp;have ht:=h1.top hF hL;have hlen:=(A1e.1 h2).1;have e0:out v=(out v).take n++h::(out v).drop (n+1):=by
  rw[<-(A1e.1 h2).2,<-A2e hlen,A3s]
 have e1:=In h2;have hD:(out v).take n≠[]:=fun c=>by
  have:=congrArg List.length c;rw[A3g,A2H] at this;omega
 obtain⟨b0,ee,hJ,hee⟩:=hL.jn hF ht.1.1 ht.1.2 e0 hD hlo;have hPne:=QT ht.2.2.1 hJ.lo.1;obtain⟨p0,Pt,rfl⟩:∃p0 Pt,P=p0::Pt:=by
  cases P with
  | nil=>exact absurd rfl hPne
  | cons a b=>exact⟨a,b,rfl⟩
 obtain⟨y0,y1,y2⟩:=h1.lowc hpv hPne;have hpar:=hF.par ht.1.1 ht.1.2 hpv;have hlv:=hL.lo1 hF ht.1.1 ht.1.2 e0 hJ.lo;have hlp:=hL.par hF (h:=pa v) (b:=b0) hpar.1 (by rw[hpar.2.1];exact hlv);refine⟨S,p0,Pt,b0,ee,y0,hJ,ht.2.2.1,y1,y2,fun b hb=>?_,.start h3 (by simpa using h4) h5 h6,by rw[h7];simp;omega,hee,hlp,fun ref' st' hj=>?_,fun hno=>?_⟩
 .obtain⟨k,hk,hr⟩:=hb;refine .inr (.inl ⟨(v,n+1),by simp,k,by dsimp only;rw[e1];exact hk,?_⟩);rw[hr.1.1.2];exact hr.2.2
 .obtain⟨P',q1,q2,q3,q4⟩:=hj;refine⟨S,P',h1.next h2 (by rw[e1];exact q1) (fun _ _=>⟨y0,?_,y2⟩) (fun _ _ _=>⟨rfl,rfl⟩) (fun _=>rfl),q2,q3,q4⟩;rw[e1];exact YF hJ y1
 refine lr_no hF hL ht.1.1 ht.1.2 (D:=(out v).take n++[h]) (R:=(out v).drop (n+1)) ?_ hno;rw[<-e1,A3s]
/-! ### leaving -/
theorem Xt(hF:CD es pa he oi N)(hL:B9 es pa he oi lo N out)(hw:WS es pa he oi lo N out Hm r bt lw ref (L++[(v,n)]) S P μ st)(hn:(out v).length<=n)(hne:L≠[]):∃l u i,L=l++[(u,i)]/\GP es pa oi (pa v)/\Aj es (pa v)=u/\(0<=u/\u<N)/\(out u)[i]? =some (pa v)/\∃S1 P1,LvP es pa he oi u S1 P1/\LV es pa he oi lo u es.length S1 P1 (UW es pa oi out r (l++[(u,i+1)])) ref st/\
  (∀b,b∈Bm (S1++P1)->UW es pa oi out r (l++[(u,i+1)]) (b / 2))/\(∀b,b∈Bm (S1++HD (Gw es he u) P1)->DO es pa oi b)/\(lo (pa v / 2)<he u->HD (Gw es he u) P1≠[])/\
  ∃μ',μ'<μ/\∀ref' st',Sta lo ref' (S1++HD (Gw es he u) P1) st'->HM (FL es pa oi) (UW es pa oi out r (l++[(u,i+1)])) ref' es.length->PJ es pa he oi lo N out Hm r bt lw ref' l u i (pa v) μ' st':=by
 obtain⟨h1,h2,h3,h4⟩:=hw;have ht:=h1.top hF hL;obtain⟨l,u,i,S0,P0,μ0,h,rfl,rfl,g1,g2,g3,rfl,g5,g6,g7,g8⟩:=h1.pop hne;have hu:=g1.top hF hL;have a1:=(hL.mem u hu.1.1 hu.1.2 h).1 (A1h g2);have hpv:pa (AD es h)=h:=g3.2;have htk:(out (AD es h)).take n=out (AD es h):=A2Z hn;rw[htk] at g6 g7;have t1:=(hF.tree g3).1;have t2:=(hF.tree g3).2;rw[a1.2] at t1 t2;have hmem:=hL.mem (AD es h) ht.1.1 ht.1.2;have hlow:=g1.low hF hL;have hB:∀b,b∈Bm (S0++P0)++Bm P->DO es pa oi b:=h4.2;have hrv:∀b,b∈Bm P->Rv es pa he oi (AD es h) b:=fun b hb=>(LE hF hmem).1 ((g6.cov b).2 hb);have hup:Uq es pa he oi u (Bm P):=fun b hb=>by
  have hr:=hrv b hb;have hf:=hF.rng hr.1.1.1;refine⟨hr.1,by have:=hr.2.2;omega,fun e=>by rw[e],fun e=>?_⟩;exact(hF.back hr.1).1.same hF (hr.2.1.trans t2) hf.1.1 hf.1.2 e
 have hU:∀b,b∈Bm (S0++P0++P)->UW es pa oi out r (l++[(u,i+1)]) (b / 2):=fun b hb=>by
  refine UW.up hF hL hu.1 g2 g3 (n:=n) (.inr (.inl ?_));have hbk:=hB b (by rw[<-By];exact hb);rw[hbk.1.2];exact h1.us b hb
 have hseg:Gx es pa he oi N [h] (HD (Gw es he u) P):=by
  have:=VZ hF g3 hmem g6;rw[a1.2] at this;exact this
 have hsub:∀b,b∈Bm (HD (Gw es he u) P)->b∈Bm P:=fun b hb=>by rw[JZ] at hb;exact(A1D.1 hb).1
 refine⟨l,u,i,rfl,by rw[hpv];exact g3,by rw[hpv];exact a1.2,hu.1,by rw[hpv];exact g2,S0++P0,P,⟨hlow.1,fun p hp=>?_,hup,g6.ord⟩,.start h2 (h3.mono fun x hx=>hx.up hF hL hu.1 g2 g3) h4,hU,fun b hb=>?_,fun hlt=>?_,μ0,by omega,fun ref' st' hs ha=>?_⟩
 .rcases A1C.1 hp with g|g
  .exact hlow.2 p g
  exact g6.ful p g
 .rw[By] at hb;rcases A1C.1 hb with g|g
  .exact hB b (by simp[g])
  exact hB b (by simp[hsub b g])
 .rw[hpv] at hlt;obtain⟨b,hb⟩:=(hL.lt a1.1).2 (by rw[a1.2];exact hlt);exact QT hseg ⟨h,by simp,hb⟩
 rw[hpv];have e1:WT es pa he oi out Hm h=2+wt es pa he oi out Hm (AD es h):=by unfold WT;rw[if_pos g3]
 refine⟨S0,P0,HD (Gw es he u) P,by rw[e1,<-A3h];exact g1,g2,hseg,by rw[<-A1L];exact hs,ha,?_,g5,fun hq=>?_⟩
 .have hst:(Bm (HD (Gw es he u) P)).Sublist (Bm P):=by rw[JZ];exact A1X
  rw[<-A1L,<-By];exact h4.sub (List.Sublist.append_left hst _)
 have hPne:P≠[]:=fun c=>by rw[c] at hq;exact hq rfl
 obtain⟨y,y1,y2⟩:=g7 hPne;refine⟨y,?_,y2⟩
 -- a return that HH below u
 obtain⟨p,hp⟩:=A2i _ hq;obtain⟨b,hb⟩:=A2i _ (hseg.ful p hp);obtain⟨k,hk,hr⟩:=(hseg.cov b).2 (Bx.2 ⟨p,hp,hb⟩);simp at hk;subst hk;have hlv:=(My hF hmem).1 y1;have hrt:=hr.2.1;rw[a1.2] at hrt;have hrb:Rv es pa he oi (AD es k) b:=⟨hr.1,by
  rcases hr.2.2 with e|e
  .exact absurd (by rw[e];exact g3.2) hr.1.2
  exact e.2,by omega⟩;have hyb:=hlv.2 b hrb;refine⟨⟨k,by simp,hlv.1.1,by rw[a1.2];omega,.inr ⟨g3,hlv.1.2.1⟩⟩,fun c ⟨k',hk',hc⟩=>?_⟩;simp at hk';subst hk';refine hlv.2 c ⟨hc.1,?_,by have:=hc.2.1;rw[a1.2] at this;omega⟩;rcases hc.2.2 with e|e
 .exact absurd (by rw[e];exact g3.2) hc.1.2
 exact e.2
end
end
section
open Classical
section
variable{es:List Pr}{pa he oi lo:Int->Int}{N:Int}{out:Int->List Int}{Hm r:Int}{bt lw bt' lw' ref:Int->Int}{l L:List (Int×Nat)}{S P Q:PL}{μ n i:Nat}{h u v b:Int}{st:List IP}
theorem L6{pa oi:Int->Int}{X:List Int}(h:Hz es pa oi X):X.length<=es.length*2:=by
 have:=E2 (b:=(List.range (es.length*2)).map fun(x:Nat)=>(x:Int)) h.1 fun x hx=>by
  have g:=(h.2 x hx).1.1;exact A1G.2 ⟨x.toNat,A1r.2 (by have:=g.2;have:=g.1;omega),by have:=g.1;omega⟩
 simpa using this
theorem LL{P:PL}(h:∀p,p∈P->B7 p≠[]):P.length<=(Bm P).length:=by
 induction P with
 | nil=>simp
 | cons p P ih=>
  rw[Cl,A1V,A2a];have:=ih fun q hq=>h q (by simp[hq]);have:=A2k.2 (h p (by simp));omega
theorem NJ.nodup(hF:CD es pa he oi N)(hL:B9 es pa he oi lo N out)(hw:NJ es pa he oi N out Hm r bt lw L S P μ):(L.map Prod.fst).Nodup/\∀p,p∈L->0<=p.1/\p.1<N:=by
 induction hw with
 | root h0 h1 h2 h3 h4=>exact⟨by simp,fun p hp=>by simp at hp;subst hp;exact⟨h0,h1⟩⟩
 | @push l' u i S P Q μ n' h hw h1 h2 h3 h4 h5 h6 ih=>
  have ht:=hw.top hF hL;have a1:=(hL.mem u ht.1.1 ht.1.2 h).1 (A1h h1);have t1:=(hF.tree h2).1;rw[a1.2] at t1;refine⟨?_,fun p hp=>?_⟩
  .rw[A1Y,A1I];refine⟨ih.1,by simp,fun a ha b hb e=>?_⟩;simp at hb;subst hb;subst e;obtain⟨p,hp,e2⟩:=A1G.1 ha;rcases A1C.1 hp with hp|hp
   .have:=(ht.2.2.2.2.2.2 p hp).1;rw[e2] at this;omega
   simp at hp;subst hp;dsimp only at e2;rw[<-e2] at t1;omega
  rcases A1C.1 hp with hp|hp
  .exact ih.2 p hp
  simp at hp;subst hp;exact(hF.rng h2.1.1).2
theorem NJ.len(hF:CD es pa he oi N)(hL:B9 es pa he oi lo N out)(hw:NJ es pa he oi N out Hm r bt lw L S P μ):L.length<=N.toNat:=by
 obtain⟨h1,h2⟩:=hw.nodup hF hL;have:=E2 (b:=(List.range N.toNat).map fun(x:Nat)=>(x:Int)) h1 fun x hx=>by
  obtain⟨p,hp,rfl⟩:=A1G.1 hx;have:=h2 p hp;exact A1G.2 ⟨p.1.toNat,A1r.2 (by omega),by omega⟩
 simpa using this
theorem ws_len(hF:CD es pa he oi N)(hL:B9 es pa he oi lo N out)(hw:WS es pa he oi lo N out Hm r bt lw ref (l++[(v,n)]) S P μ st):st.length<=es.length*2:=by
 obtain⟨h1,h2,h3,h4⟩:=hw;have a1:=h2.length;have a2:=LL (h1.low hF hL).2;have a3:=L6 h4;rw[By] at a2;simp only[A1V] at a1 a2 a3;omega
theorem pj_len(hF:CD es pa he oi N)(hL:B9 es pa he oi lo N out)(hp:PJ es pa he oi lo N out Hm r bt lw ref l v n h μ st):st.length<=es.length*2:=by
 obtain⟨S,P,Q,h1,h2,h3,h4,h5,h6,h7,h8⟩:=hp;have a1:=h4.length;have a2:=LL (h1.low hF hL).2;have a4:=LL h3.ful;have a3:=L6 h6;rw[By] at a2;simp only[A1V] at a1 a2 a3;omega
end
end
theorem EG(n:Nat)(x:Int)(w:World)(hn:n<=8388608):
  Calls A1c 37 #[Iv n,Iv x] w (Ret w [] fun v L=>∃g,v= Sv g n/\L=[AC g 3 (AA (List.replicate n x)).toArray]):=by
 refine cO Tryz.func37 Tryz.ntmps37<|Zs ?_;refine Za<|Zx<|Zs ?_;refine Zm ?_;refine Zw (B6 (k:=n) J J J A1x Bw Fz C6 J (by omega) (by omega) (BS _)) fun g8=>?_;refine Za<|Zx<|Ai<|Zs ?_;refine Zz [3]<|Zx<|As ?_;refine AS (ι:=Nat) (fun i=>i<=n)
  (fun i=>[(1,Iv x),(5,Sv g8 n),(10,Iv n),(11,Iv i)])
  (fun i=>[AC g8 3 (AA (BA n fun j=>if j<i then x else 0)).toArray]) (fun i=>n-i) 0 (A1E _) ⟨J,J,J,J,trivial⟩ (.cons' 0 J (Bi fun x _=>by simp) .nil) ?_;intro i hi;refine Zs<|Zc<|Zx<|Ai ?_;refine Zd ?_ ?_<;>intro c3
 .have hlt:i<n:=by simpa using c3
  refine Ao<|Aa<|Ai<|As<|Zs<|Zz [2]<|Zx<|Ak ?_;refine Zz [4] ?_;refine Zy (AP (cs':=(AA (BA n (upd (fun j=>if j<i then x else 0) i x))).toArray) J J J Bw J (by simp;omega) BU)<|Az<|An<|Aa<|Ak ?_;refine Zz [2]<|Az ?_;refine AB (i+1) (by omega) (by omega) ⟨J,J,J,J,trivial⟩ (.cons' 0 J (Bi fun y _=>by
   unfold upd;by_cases h1:y=i
   .subst h1;simp
   by_cases h2:y<i
   .simp[h1,h2,Nat.lt_succ_of_lt h2]
   have h3:¬y<i+1:=by omega
   simp[h1,h2,h3]) .nil)
 refine AN<|Ag<|Ag<|Aq<|Aa<|Zs<|Zz [2]<|Zx<|At ?_;refine Zh ?_;have hie:i=n:=by simp at c3;omega
 subst hie;refine⟨g8,J,?_⟩;have:(BA i fun j=>if j<i then x else 0)=List.replicate i x:=?_
 .rw[this]
 apply A2z;intro j;by_cases hj:j<i
 .rw[C3 _ hj];simp[hj]
 rw[A1u (by simp;omega),A1u (by simp;omega)]
section
variable{w:World}{g7:Nat}{vw:Value}{way:List Pr}
def Np(g7:Nat)(vw:Value)(way:List Pr):List Chunk:=[AC g7 104 #[vw],Bf vw 107 2 (Cj way)]
theorem Ts(v x:Int)(hO:AR w (AY (Np g7 vw way)) w (Np g7 vw way))(hl:way.length<=1000000000):
  Calls A1c 40 #[Pv g7,.agg #[Iv v,Iv x]] w
   (Ret w (AY (Np g7 vw way)) fun r M=>r= .tuple #[]/\∃vw',M=Np g7 vw' (way++[(v,x)])):=by
 refine BO (args:=[_,_]) Tryz.func40 J Tryz.ntmps40 J hO ?_;unfold Np;refine Zs ?_;refine ZB fun g3=>Zx ?_;refine Fv 30032110000 11 ?_;refine Yz [4,0] ?_;refine Bp J J J J (A4 (vs:=[_,_]) J J ag107 QK J (AW J)) ?_;refine A8 J J J J (Eo (cs:=#[_,_]) J J Tryz.underlying102 QK ze107 J (by decide) (by decide) J J) fun g10=>?_;let ca:=AC g10 107 #[Iv v,Iv x];let cb:=AC g3 107 #[Iv v,Iv x];refine C5 (V:=[ca,cb,AC g7 104 #[vw],Bf vw 107 2 (Cj way)]) J J J J J (SP.shape (Bt (F:=[ca,cb,AC g7 _ _]) (vs:=Cj way) (k:=1) (news:=[Iv v,Iv x]) J J J Tryz.underlying102 QK by107 ze107 J (by decide) (by decide)
  (PK (Et (Bg (Bg (Bg .nil))))) (.inl ⟨_,_,rfl,AW rfl⟩) rfl (by intro u hu;simp at hu;rcases hu with rfl|rfl<;>rfl) (by rw[prs_length];omega))) (fun v L' hC w hw=>hw.pick (.nil)) ?_;rintro _ _ ⟨⟨A11,l11,c11,rfl⟩,rfl⟩;refine Yz [2] ?_;refine AO J J J J (AP (cs':=#[_]) J J J sz102 J (A1f J) J) PN ?_;refine AF J ?_;simp only[zq,zr];refine AZ (E':=[]) trivial (Et (Bg .nil)) ?_;refine BQ (.inr J) J ?_;refine⟨J,.slice A11 l11 c11,?_⟩;simp[Np,Dc,Cj]
theorem Tf(hO:AR w (AY (Np g7 vw way)) w (Np g7 vw way)):
  Calls A1c 42 #[Pv g7] w (Ret w [] fun r M=>M=[]/\r= .bool (decide (way≠[]))):=by
 have hr:=Ft (hO.perm (.swap _ _ _));obtain⟨A,len,cap,rfl,hl,hR,h1,h2⟩:=hr;have hg:=hO.holds (AC g7 _ _) (A1m ..);refine cO Tryz.func42 Tryz.ntmps42<|Zs ?_;refine Za<|Zx<|Zs ?_;refine Zz [3] ?_;refine Zu (AG J J ag102 (Bh hg J)) ?_;refine Zz [3]<|Zx<|At ?_;refine Zh ?_;refine⟨J,?_⟩;rw[prs_length] at hl
 congr 1
 rw[decide_eq_decide];cases way<;>simp at hl ⊢<;>omega
theorem VU{gw len cap:Nat}(hg:w.heap[g7]? =some (.cells #[.slice (So gw) len cap] 104 (0,0)))(h0:0<len)(h1:len<=1000000000):
  Calls A1c 43 #[Pv g7] w (Ret w [] fun r M=>M=[]/\r= .pointer (some ⟨gw,(len-1)*2,none⟩)):=by
 refine cO Tryz.func43 Tryz.ntmps43<|Zs ?_;refine Za<|Zx<|Ai ?_;refine Fv 10001000 12 ?_;refine Yz [3] ?_;refine Yh (Bh hg J) ?_;refine Yz [3] ?_;refine Yh (Bh hg J) ?_;refine Yo J (EC J J Tryz.underlying102) ?_;refine Yz [1] ?_;refine Yo J (Bz (ad':=⟨gw,(len-1)*2,none⟩) J J J Tryz.underlying102 QK (by omega) (by omega) (by rw[AX];congr 2;omega)) ?_;refine Yz [1] ?_;refine AF J ?_;simp only[zq,zr];refine Aa<|At ?_;refine Zh ?_;exact⟨J,J⟩
theorem Wa{gw len cap:Nat}(hg:AR w (AY [AC g7 104 #[.slice (So gw) len cap]]) w [AC g7 104 #[.slice (So gw) len cap]])(h0:0<len)(h1:len<=1000000000)(h2:len<=cap):
  Calls A1c 44 #[Pv g7] w (Ret w (AY [AC g7 104 #[.slice (So gw) len cap]]) fun r M=>r= .tuple #[]/\M=[AC g7 104 #[.slice (So gw) (len-1) cap]]):=by
 refine BO (args:=[_]) Tryz.func44 J Tryz.ntmps44 J hg ?_;refine Fv 300000100010000 15 ?_;refine Yz [4,3,0] ?_;refine Yo J (EC J J Tryz.underlying102) ?_;refine Yz [1] ?_;refine Yo J (FY (hi:=len-1) J J (by rw[show((len-1:Nat):Int)=(len:Int)-1 by omega];rfl) Tryz.underlying102 QK (by omega)) ?_;refine Yz [2] ?_;refine AO J J J J (AP (cs':=#[_]) J J J sz102 J (A1f J) J) PN ?_;refine AF J ?_;simp only[zq,zr];refine BQ (.inr J) J ?_;exact⟨J,J⟩
end
theorem LC{w0 w:World}{K:List Nat}{L:List Chunk}{N:Int}{es:List Pr}{M:Jo}(hw:AR w0 K w L)(hp:Dd L (NI M))(hP:Xj N es M):AV w N es M (some ⟨M.gp,0,none⟩):=by
 have h:=(hw.pick hp).holds;unfold NI at h;exact .at ⟨h (AC _ _ _) (by simp),h (AC _ _ _) (by simp),h (AC _ _ _) (by simp),h (AC _ _ _) (by simp),h (AC _ _ _) (by simp)⟩ hP
structure WG where
 g6:Nat
 g7:Nat
 g4:Nat
 gp:Nat
 gh:Nat
 gr:Nat
def GB(G:WG)(M:Jo)(vo vw:Value)(s:St)(way:List Pr):List Chunk:=
 [AC G.g6 58 #[sl G.gp s.pa,sl G.gh s.he,vo,sl G.gr s.oi],AC G.gp 3 (AA s.pa).toArray,AC G.gh 3 (AA s.he).toArray,Bf vo 3 1 (AA s.od),AC G.gr 3 (AA s.oi).toArray,
   AC G.g7 104 #[vw],Bf vw 107 2 (Cj way),AC G.g4 97 #[.pointer (some ⟨M.gp,0,none⟩)],
   AC M.gp 196 #[sl M.g0 M.fr,sl M.g1 M.st,sl M.g2 M.ou,sl M.g3 M.pl],AC M.g0 3 (AA M.fr).toArray,AC M.g1 3 (AA M.st).toArray,AC M.g2 3 (AA M.ou).toArray,AC M.g3 3 (AA M.pl).toArray]
theorem KV{w:World}{G:WG}{M:Jo}{vo vw:Value}{s:St}{way:List Pr}{N:Int}{es:List Pr}{m c:Nat}{v h d:Int}(hO:AR w (AY (GB G M vo vw s way)) w (GB G M vo vw s way))(hP:Xj N es M)(hI:Inv N m c s)(h0:0<=v)(h1:v<N)
 (hc:s.od.length<=1000000000)(hw:way.length<=1000000000):
  Calls A1c 39 #[Iv v,Iv h,Iv d,.pointer (some ⟨G.g6,0,none⟩),.pointer (some ⟨G.g7,0,none⟩),.pointer (some ⟨G.g4,0,none⟩)] w
   (Ret w (AY (GB G M vo vw s way)) fun r L=>r= .tuple #[]/\∃vo' vw',L=GB G M vo' vw' (s.enter v h d) (way++[(v,(Bs es v)[0]?.getD (-1))])):=by
 obtain⟨vn,rfl⟩:=A1n h0;have hpl:=hI.pal;have hhl:=hI.hel;refine BO (args:=[_,_,_,_,_,_]) Tryz.func39 J Tryz.ntmps39 J hO ?_;unfold GB;refine Ai ?_;refine Fw 303000000010 (od 12) ([AC G.g6 58 #[sl G.gp s.pa,sl G.gh s.he,vo,sl G.gr s.oi]]) (PK (Bg .nil)) ?_;refine Yz [1,2] ?_;refine BG J J J (AG J J D8 (B0 J)) ?_;refine Yz [3] ?_;refine Yi A1x Bw ?_;refine AO J J J J (AP (cs':=(AA (s.pa.set vn h)).toArray) J J J Bw J (by simp;omega) BP) (PK (Bg .nil)) ?_;refine Yi A1x Bw ?_;refine AO J J J J (AP (cs':=(AA (s.he.set vn d)).toArray) J J J Bw J (by simp;omega) BP) (PK (Bg .nil)) ?_;refine AF J ?_;simp only[zq,zr];refine Aa<|Zs<|Zz [1,1] ?_;refine ZL #[_] A1x Bw C6 fun g22=>?_;refine AU J J (SP.shape (Bt (F:=[AC g22 3 #[Iv vn],AC G.g6 _ _,AC G.gp _ _,AC G.gh _ _,AC G.gr _ _,AC G.g7 _ _,Bf _ _ _ _,AC G.g4 _ _,AC M.gp _ _,AC M.g0 _ _,AC M.g1 _ _,AC M.g2 _ _,AC M.g3 _ _]) (vs:=AA s.od) (k:=1) (news:=[Iv vn]) J J J A1x Bw Fz C6 J (by decide) (by decide)
  (PK (LQ (Ay _))) (.inl ⟨_,_,rfl,AW rfl⟩) rfl (by intro u hu;simp at hu;subst hu;rfl) (by rw[ints_length];omega))) ?_;rintro _ _ ⟨⟨A23,l23,c23,rfl⟩,rfl⟩;refine Zz [1] ?_;refine Jj #[_,_,_,_]<|Zx<|Ak ?_;refine Zz [1,1] ?_;refine AL J J (AH en41 J J J (fun w' hw'=>K8 (LC hw' (Jp9 (Jp9 (Jp9 (Jp9 (Jp9 .nil))))) hP) vn)) ?_;rintro _ rfl;refine ZS #[_,_] bs107 ?_;refine AU J J (D7 en40 J J J (Lc:=Np G.g7 vw way) (K':=AY (Np G.g7 vw way)) (F:=[Bf _ _ _ _,AC g22 _ _,AC G.g6 _ _,AC G.gp _ _,AC G.gh _ _,AC G.gr _ _,AC G.g4 _ _,AC M.gp _ _,AC M.g0 _ _,AC M.g1 _ _,AC M.g2 _ _,AC M.g3 _ _]) (PK (W6 (W6 (Ay _)))) (fun _ h=>h) (fun w hw'=>Ts _ _ (hw'.sub (A1J _ _)).self hw)) ?_;rintro _ _ ⟨_,⟨rfl,vw',rfl⟩,rfl⟩;refine Az ?_;refine AZ (E':=[]) trivial (LQ (LQ (LQ (CY (Et (Bg (Bg (BC (BC (BC (BC (BC (BC .nil))))))))))))) ?_;refine BQ (.inr J) J ?_;refine⟨J,.slice A23 l23 c23,vw',?_⟩;simp[GB,St.enter,sl,BW]
 rfl
section
variable{w:World}{v0 v1 v2 v3:Value}{pa he od oi:List Int}
def forL(v0 v1 v2 v3:Value)(pa he od oi:List Int):List Chunk:=[Bf v0 3 1 (AA pa),Bf v1 3 1 (AA he),Bf v2 3 1 (AA od),Bf v3 3 1 (AA oi)]
end
theorem Ho{N h:Int}{es:List Pr}{va:Value}{w:World}(hg:DX w va es)(h0:0<=h)(h1:h<es.length*2):
  Calls A1c 124 #[.agg #[Iv N,va],Iv h] w (Ret w [] fun v L=>L=[]/\v= .tuple #[Iv (Aj es h),Iv (AD es h)]):=by
 obtain⟨A,cap,rfl,hr,hlc,hcm,hl⟩:=hg;obtain⟨hn,rfl⟩:=A1n h0;obtain⟨e,he,hf⟩:=PR (es:=es) (h:=hn) (by omega);have hfv:Aj es hn=if hn%2=0 then e.1 else e.2:=by unfold Aj;rw[if_pos h0,A1g,hf];rfl
 have htv:AD es hn=if hn%2=0 then e.2 else e.1:=by
  obtain⟨f1,f2⟩:=Ek he;unfold AD tw;rw[if_pos h0];by_cases hp:hn%2=0
  .rw[if_pos hp,if_pos (by omega)];unfold Aj;rw[if_pos (by omega),show((hn:Int)+1).toNat=2*(hn / 2)+1 by omega,f2];rfl
  rw[if_neg hp,if_neg (by omega)];unfold Aj;rw[if_pos (by omega),show((hn:Int)-1).toNat=2*(hn / 2) by omega,f1];rfl
 obtain⟨ad,rfl,hU,hV⟩:=hr.pair he;have hd:((hn:Int) / 2).toNat=hn / 2:=by omega
 refine cO Tryz.func124 Tryz.ntmps124<|Zs ?_;refine ZB fun g2=>?_;refine Zz [2]<|Zx<|Zs ?_;refine Zz [1,1] ?_;refine Zo (Gi J J J (by omega) (by omega)) ?_;refine Zo (Bz (ad':=ad.add (hn / 2*2)) J J J A1y CF (by omega) (by omega) (by rw[hd])) ?_;refine Zu (A4 (vs:=[_,_]) J J Hw CF J (Fm hU hV (by simp))) ?_;refine ZA Fs fun g6=>?_;refine Zq #[_,_]<|Zx<|Ai<|Zs ?_;refine Zm ?_;refine Zo (Ye J J J (by omega) (by omega)) ?_;refine Zz [1]<|Zx ?_;refine Zd ?_ ?_<;>intro c2
 .refine Ai ?_;refine Fv 1010 6 ?_;refine Yz [1,1,2] ?_;refine AF J ?_;simp only[zq,zr];refine Aa<|At<|Ad ?_;refine Lm 4 5 ?_;refine Bq (.inl J) J J J ?_;have:hn%2=0:=by simp at c2;omega
  exact⟨J,by rw[hfv,htv,if_pos this,if_pos this]⟩
 refine Ao<|Aa<|Ai ?_;refine Fv 1010 6 ?_;refine Yz [1,1,2] ?_;refine AF J ?_;simp only[zq,zr];refine Aa<|At ?_;refine Lm 4 5 ?_;refine Bq (.inl J) J J J ?_;have:¬hn%2=0:=by simp at c2;omega
 exact⟨J,by rw[hfv,htv,if_neg this,if_neg this]⟩
structure PlI where
 i:Nat
 at':List Int
theorem Po{N:Nat}{va v0 v1 v2 v3:Value}{od:List Int}{w:World}(hN:N<=1048576)(h2:FD w v2 od):
  Calls A1c 122 #[.agg #[Iv N,va],.agg #[v0,v1,v2,v3]] w (Ret w [] fun v L=>
   (C4 N od 0 (List.replicate N (-1))=none/\v= .tuple #[Nv,.bool false]/\L=[])\/
   (∃g at',C4 N od 0 (List.replicate N (-1))=some at'/\at'.length=N/\v= .tuple #[Sv g N,.bool true]/\L=[AC g 3 (AA at').toArray])):=by
 obtain⟨A,cap,rfl,hr,hlc,hcm,hl⟩:=h2;refine cO Tryz.func122 Tryz.ntmps122<|Zs ?_;refine ZB fun g2=>?_;refine ZB fun g3=>?_;refine Zz [2]<|Zx<|Zs ?_;refine Zz [1,0] ?_;refine Bk J J (AH Y1 J J J (fun w' hw=>EG N (-1) w' (by omega))) ?_;rintro _ _ ⟨g,rfl,rfl⟩;simp only[zs];refine Za<|Zx<|Ai<|Zs ?_;refine Zz [1,2]<|Zx<|As ?_;refine AS (ι:=PlI) (fun j=>j.i<=od.length/\j.at'.length=N/\C4 N (od.drop j.i) j.i j.at'=C4 N od 0 (List.replicate N (-1)))
  (fun j=>[(2,Pv g2),(6,Sv g N),(13,.slice A od.length cap),(14,Iv od.length),(15,Iv j.i)])
  (fun j=>[AC g 3 (AA j.at').toArray,AC g2 24 #[Iv N,va]])
  (fun j=>od.length-j.i) ⟨0,List.replicate N (-1)⟩ ⟨A1E _,by simp,J⟩ ⟨J,J,J,J,J,trivial⟩ (Bg (BC .nil)) ?_;rintro⟨i,at'⟩ ⟨hi,hal,hF⟩;dsimp only at hi hal hF ⊢;refine Zs<|Zc<|Zx<|Ai ?_;refine Zd ?_ ?_<;>intro c3
 .have hlt:i<od.length:=by simpa using c3
  obtain⟨x,hx⟩:∃x,od[i]? =some x:=⟨_,A1d hlt⟩;obtain⟨ad,rfl,hX⟩:=hr.int hx;have hdrop:od.drop i=x::od.drop (i+1):=by rw[A2e hlt,(A1e.1 hx).2]
  rw[hdrop,FH] at hF;refine Ao<|Aa<|Ai<|As<|Zs<|Zm ?_;refine Zj (ad.add i) ?_;refine Zu (AG J J CA (A7 hX)) ?_;refine Zz [2]<|Zx<|Ai<|Zs ?_;refine Zz [3] ?_;refine AM 22 J (fun k5_2=>?_) (fun k5_2=>?_)
  .refine Zz [12]<|Zx ?_;refine Bn J<|Zs ?_;refine Zz [2]<|Zx<|At<|Ad<|Am<|Ad<|Ad<|Am<|Ad ?_;refine Lm 4 5 ?_;refine Bq (.inl J) J J J ?_;refine .inl ⟨?_,J,J⟩;rw[if_pos (by simp at k5_2;omega)] at hF;exact hF.symm
  refine Zz [2,3] ?_;refine AM 28 J (fun k5_8=>?_) (fun k5_8=>?_)
  .refine Zz [6]<|Zx ?_;refine Bn J<|Zs ?_;refine Zz [2]<|Zx<|At<|Ad<|Am<|Ad<|Ad<|Am<|Ad ?_;refine Lm 4 5 ?_;refine Bq (.inl J) J J J ?_;refine .inl ⟨?_,J,J⟩;rw[if_pos (by simp at k5_8;omega)] at hF;exact hF.symm
  have hx0:0<=x:=by simpa using k5_2
  have hxN:x<N:=by simpa using k5_8
  have hax:=BM (l:=at') (i:=x) (by omega);refine Zz [2] ?_;refine Zj ⟨g,x.toNat,none⟩ ?_;refine Zu (AG J J CA (AK (Br hax))) ?_;refine Zz [2]<|Zx ?_;refine Zd ?_ ?_<;>intro c5
  .refine Zs<|Zz [2]<|Zx<|At<|Ad<|Am<|Ad<|Ad<|Am<|Ad ?_;refine Lm 4 5 ?_;refine Bq (.inl J) J J J ?_;refine .inl ⟨?_,J,J⟩;rw[if_pos (by simp at c5;omega)] at hF;exact hF.symm
  refine Ao<|Aa<|Ak<|Zz [3] ?_;refine Zj ⟨g,x.toNat,none⟩ ?_;refine Zy (AP (cs':=(AA (at'.set x.toNat i)).toArray) J J J Bw J (by simp;omega) BP)<|Az<|An<|Aa<|Ak ?_;refine Zz [2]<|Az ?_;rw[if_neg (by simp at c5;omega)] at hF;refine AB (PlI.mk (i+1) (at'.set x.toNat i)) (by dsimp only;omega) ⟨by dsimp only;omega,by simp[hal],hF⟩ ⟨J,J,J,J,J,trivial⟩ (Ay _)
 refine AN<|Ag<|Ag<|Aq<|Aa<|Zs<|Zz [3]<|Zx<|At ?_;refine AZ (E':=[(4,_),(5,_)]) ⟨J,J,trivial⟩ (Bg .nil) ?_;refine Bq (.inl J) J J J ?_;have hie:i=od.length:=by simp at c3;omega
 subst hie;rw[A3L] at hF;exact .inr ⟨g,at',hF.symm,hal,J,J⟩
section
variable{w:World}{va v0 v1 v2 v3:Value}{N:Nat}{es:List Pr}{pa he oi:List Int}
theorem R1{v:Int}(hg:DX w va es)(hV:BX N es)(h0:FD w v0 pa)(h1:FD w v1 he)(h3:FD w v3 oi)(l0:pa.length=N)(l1:he.length=N)(l3:oi.length=es.length)(hv0:0<=v)(hv1:v<N):
  Calls A1c 123 #[.agg #[Iv N,va],.agg #[v0,v1,v2,v3],Iv v] w (Ret w [] fun x L=>L=[]/\x= .bool (FC es pa he oi v)):=by
 have hfew:=hV.few;have hN1:=hV.hi;obtain⟨a0,c0',rfl,x0⟩:=h0.cell hv0 (by omega);obtain⟨a1,c1',rfl,x1⟩:=h1.cell hv0 (by omega);obtain⟨A,cap,hva,hr,hlc,hcm,hl⟩:=hg;refine cO Tryz.func123 Tryz.ntmps123 ?_;subst hva;refine Zs ?_;refine ZB fun g3=>?_;refine ZB fun g4=>?_;refine Za<|Zx<|Zs ?_;refine Zz [1,1] ?_;refine Zj (a0.add v.toNat) ?_;refine Zu (AG J J CA (A7 x0)) ?_;refine Za<|Zx<|Ai<|Zs ?_;refine Zz [2]<|Zx ?_;refine Zd ?_ ?_<;>intro c2
 .refine Zs<|Zz [1,1] ?_;refine Zj (a1.add v.toNat) ?_;refine Zu (AG J J CA (A7 x1)) ?_;refine Zz [2]<|Zx<|At<|Ad ?_;refine DN 6 ?_;refine Zh ?_;have e1:Ae pa v= -1:=by simpa using c2
  exact⟨J,by unfold FC;rw[if_pos e1]⟩
 have e1:¬Ae pa v= -1:=by simpa using c2
 refine Ao<|Aa<|Ai<|Zs<|Zz [3] ?_;refine AM 25 J (fun k4_2=>?_) (fun k4_2=>?_)
 .refine Zz [17]<|Zx ?_;refine Bn J<|Zs ?_;refine Za<|Zx<|At<|Ad ?_;refine DN 6 ?_;refine Zh ?_;exact⟨J,by unfold FC;rw[if_neg e1,if_pos (by simp at k4_2;omega)]⟩
 refine Zz [2,1] ?_;refine Zo (Dz J J J (by omega)) ?_;refine Zz [3] ?_;refine AM 33 J (fun k4_10=>?_) (fun k4_10=>?_)
 .refine Zz [9]<|Zx ?_;refine Bn J<|Zs ?_;refine Za<|Zx<|At<|Ad ?_;refine DN 6 ?_;refine Zh ?_;exact⟨J,by unfold FC;rw[if_neg e1,if_pos (by simp at k4_10;omega)]⟩
 have e2:0<=Ae pa v:=by simpa using k4_2
 have e3:Ae pa v<2*(es.length:Int):=by simpa using k4_10
 obtain⟨a3,c3',rfl,x3⟩:=h3.cell (i:=Ae pa v / 2) (by omega) (by omega);refine Zz [1,1] ?_;refine Zo (Gi J J J (by omega) (by omega)) ?_;refine Zj (a3.add (Ae pa v / 2).toNat) ?_;refine Zu (AG J J CA (A7 x3)) ?_;refine Zz [3]<|Zx ?_;refine Zd ?_ ?_<;>intro c4
 .refine Zs<|Za<|Zx<|At<|Ad ?_;refine DN 6 ?_;refine Zh ?_;exact⟨J,by unfold FC;rw[if_neg e1,if_pos (by simp at c4;exact .inr (.inr c4))]⟩
 have e4:Ae oi (Ae pa v / 2)=Ae pa v:=by simpa using c4
 have hgb:FC es pa he oi v=decide (AD es (Ae pa v)=v/\Ae he v=wr (Ae he (Aj es (Ae pa v))+1)):=by unfold FC;rw[if_neg e1,if_neg (by omega)]
 have hfr:=BE hV e2 (by omega);obtain⟨a1',c1'',he1,x1'⟩:=h1.cell (i:=Aj es (Ae pa v)) hfr.1 (by omega);cases he1;refine Ao<|Aa<|Zs ?_;refine CR [_,_] ?_;refine Zm ?_;refine AL J J (AH Vq J J J (fun w' hw=>Ho (DX.keep0 ⟨A,cap,J,hr,hlc,hcm,hl⟩ hw) e2 (by omega))) ?_;rintro _ rfl;refine Zz [5]<|Zx<|Ai ?_;refine Fv 10010100100000 18 ?_;refine Yz [4] ?_;refine BF.split 52 J (fun k7_3=>?_) (fun k7_3=>?_)
 .refine Yz [1,1] ?_;refine Yj (a1.add v.toNat) ?_;refine Yh (A7 x1) ?_;refine Yz [1,1] ?_;refine Yj (a1.add (Aj es (Ae pa v)).toNat) ?_;refine Yh (A7 x1') ?_;refine Yo J (Px J J J) ?_;refine Yz [3] ?_;refine AF J ?_;simp only[zq,zr];refine Aa<|At ?_;refine DN 6 ?_;refine Zh ?_;have e5:AD es (Ae pa v)=v:=by simpa using k7_3
  exact⟨J,by rw[hgb];simp[e5,wr]⟩
 refine Yz [14] ?_;refine AF J ?_;simp only[zq,zr];refine Aa<|At ?_;refine DN 6 ?_;refine Zh ?_;have e5:¬AD es (Ae pa v)=v:=by simpa using k7_3
 exact⟨J,by rw[hgb];simp[e5]⟩
end
structure TC where
 g:Nat
 gr:Nat
 gs:Nat
 gb:Nat
 gl:Nat
 m:Nat
 N:Int
 vE:Value
 v0:Value
 v1:Value
 v2:Value
 v3:Value
 u0:Value
 u1:Value
 u2:Value
 u3:Value
 uo:List Value
def IR(c:TC)(vp:Value):Array Value:=#[Iv c.N,c.vE,c.v0,c.v1,c.v2,c.v3,c.u0,c.u1,c.u2,c.u3,vp,.slice (some ⟨c.gr,0,none⟩) c.m c.m,.slice (some ⟨c.gs,0,none⟩) c.m c.m,.slice (some ⟨c.gb,0,none⟩) c.m c.m,.slice (some ⟨c.gl,0,none⟩) c.m c.m]
abbrev Qd(w:World)(c:TC)(vp:Value):Prop:=w.heap[c.g]? =some (.cells (IR c vp) 68 (0,0))
def EM(w:World):Prop:=∃t fz,w.heap[0]? =some (.cells #[Iv (-1),Iv (-1)] t fz)
theorem EM.keep0{w0 w:World}{L:List Chunk}(h:EM w0)(hw:AR w0 [] w L):EM w:=by
 obtain⟨t,fz,h⟩:=h;exact⟨t,fz,(hw.old _ (A1t.1 h).1 (by simp)).trans h⟩
section
variable{w:World}{c:TC}{vp:Value}{es:List Pr}{pa he oi lo:List Int}{out:List (List Int)}
theorem HS{e:Int}(hg:Qd w c vp)(hE:DX w c.vE es)(h3:FD w c.v3 oi)(h0:0<=e)(h1:e<es.length)(hl:oi.length=es.length)(ho:Ae oi e=2*e\/Ae oi e=2*e+1):
  Calls A1c 55 #[.pointer (some ⟨c.g,0,none⟩),Iv e] w (Ret w [] fun v L=>L=[]/\v= .tuple #[Iv (Aj es (Ae oi e)),Iv (AD es (Ae oi e))]):=by
 obtain⟨A,cap,hvE,hr,hlc,hcm,hlE⟩:=hE;obtain⟨ad3,cap3,hv3,hc3⟩:=h3.cell (i:=e) h0 (by omega);have hb3:=h3;obtain⟨A3,c3,hv3',_,hlc3,hcm3,hl3⟩:=h3;rw[hv3] at hv3';cases hv3';obtain⟨x,hx⟩:∃x,es[e.toNat]? =some x:=⟨_,A1d (by omega)⟩;obtain⟨ad,rfl,hU,hV⟩:=hr.pair hx;obtain⟨f1,f2⟩:=Ek hx;have a1:Aj es (2*e)=x.1:=by unfold Aj;rw[if_pos (by omega),show(2*e).toNat=2*e.toNat by omega,f1];rfl
 have a2:Aj es (2*e+1)=x.2:=by unfold Aj;rw[if_pos (by omega),show(2*e+1).toNat=2*e.toNat+1 by omega,f2];rfl
 have a3:AD es (2*e)=x.2:=by unfold AD tw;rw[if_pos (by omega),if_pos (by omega),a2]
 have a4:AD es (2*e+1)=x.1:=by unfold AD tw;rw[if_pos (by omega),if_neg (by omega),show 2*e+1-1=2*e by omega,a1]
 have ho0:0<=Ae oi e:=by omega
 refine cO Tryz.func55 Tryz.ntmps55<|Zs ?_;refine Zz [2]<|Zx<|Zs ?_;refine Zz [4] ?_;refine Zu (AG J J ag22 (Bh hg (by unfold IR;rw[hvE];rfl))) ?_;refine Zm ?_;refine Zo (Bz (ad':=ad.add (e.toNat*2)) J J J A1y CF (by omega) (by omega) J) ?_;refine Zu (A4 (vs:=[_,_]) J J Hw CF J (Fm hU hV (by simp))) ?_;refine ZA Fs fun g6=>?_;refine Zq #[_,_]<|Zx<|Ai<|Zs ?_;refine Zz [4] ?_;refine Zu (AG J J D8 (Bh hg (by unfold IR;rw[hv3];rfl))) ?_;refine Zm ?_;refine Zj (ad3.add e.toNat) ?_;refine Zu (AG J J CA (A7 hc3)) ?_;refine Zo (Ye J J J (by omega) (by omega)) ?_;refine Zz [1]<|Zx ?_;refine Zd ?_ ?_<;>intro c2
 .refine Ai ?_;refine Fv 1010 6 ?_;refine Yz [1,1,2] ?_;refine AF J ?_;simp only[zq,zr];refine Aa<|At<|Ad ?_;refine Lm 4 5 ?_;refine Bq (.inl J) J J J ?_;have:Ae oi e=2*e:=by simp at c2;omega
  exact⟨J,by rw[this,a1,a3]⟩
 refine Ao<|Aa<|Ai ?_;refine Fv 1010 6 ?_;refine Yz [1,1,2] ?_;refine AF J ?_;simp only[zq,zr];refine Aa<|At ?_;refine Lm 4 5 ?_;refine Bq (.inl J) J J J ?_;have:Ae oi e=2*e+1:=by simp at c2;omega
 exact⟨J,by rw[this,a2,a4]⟩
theorem IO{v:Int}(hg:Qd w c vp)(h0:FD w c.v0 pa)(hv0:0<=v)(hv1:v<pa.length)(hb:Ae pa v<=9223372036854775807):
  Calls A1c 58 #[.pointer (some ⟨c.g,0,none⟩),Iv v] w (Ret w [] fun r L=>L=[]/\r= Iv (if Ae pa v<0 then -1 else Ae pa v / 2)):=by
 obtain⟨ad,cap,hv,hc⟩:=h0.cell (i:=v) hv0 hv1;obtain⟨A3,c3,hv',_,hlc,hcm,hl⟩:=h0;rw[hv] at hv';cases hv';refine cO Tryz.func58 Tryz.ntmps58<|Zs ?_;refine Za<|Zx<|Ai<|Zs ?_;refine Zz [4] ?_;refine Zu (AG J J D8 (Bh hg (by unfold IR;rw[hv];rfl))) ?_;refine Zm ?_;refine Zj (ad.add v.toNat) ?_;refine Zu (AG J J CA (A7 hc)) ?_;refine Zc<|Zx ?_;refine Zd ?_ ?_<;>intro c1
 .refine Zs<|Za<|Zx<|At<|Ad ?_;refine Zh ?_;exact⟨J,by rw[if_pos (by simpa using c1)]⟩
 have hn:0<=Ae pa v:=by simpa using c1
 refine Ao<|Aa<|Zs<|Zz [4] ?_;refine Zu (AG J J D8 (Bh hg (by unfold IR;rw[hv];rfl))) ?_;refine Zm ?_;refine Zj (ad.add v.toNat) ?_;refine Zu (AG J J CA (A7 hc)) ?_;refine Zo (Gi J J J (by omega) (by omega)) ?_;refine Za<|Zx<|At ?_;refine Zh ?_;exact⟨J,by rw[if_neg (by omega)]⟩
abbrev ivV(i:Int×Int):Value:=.agg #[Iv i.1,Iv i.2]
theorem NB(i:Int×Int):decide (i.1= -1/\i.2= -1)=decide (i=noI):=by
 have:(i.1= -1/\i.2= -1)↔i=noI:=⟨fun h=>Prod.ext h.1 h.2,fun h=>by rw[h];exact⟨rfl,rfl⟩⟩;simp only[this]
theorem El{i:Int×Int}{e:Int}(hg:Qd w c vp)(hG:EM w)(hl:FD w c.u0 lo)(h0:0<=e)(h1:e<lo.length)(hi:i≠noI->0<=i.2/\i.2<lo.length):
  Calls A1c 128 #[.pointer (some ⟨c.g,0,none⟩),ivV i,Iv e] w (Ret w [] fun r L=>L=[]/\∃b,r= .bool b/\(b=true↔Sw (Ae lo) (Ae lo e) i)):=by
 obtain⟨ad,cap,hv,hc⟩:=hl.cell (i:=e) h0 h1;have hl':=hl;obtain⟨A3,c3,hv',_,hlc,hcm,hll⟩:=hl;rw[hv] at hv';cases hv';refine cO Tryz.func128 Tryz.ntmps128<|Zs ?_;refine ZB fun g4=>?_;refine Za<|Zx<|Ai ?_;refine Fv 100100001010100000011 24 ?_;refine Bp J J J J (A4 (vs:=[_,_]) J J Dp CE J (AW J)) ?_;refine Bp J J J J (A4 (vs:=[_,_]) J J Dp CE J (Jb hG (by simp) J)) ?_;refine Yo J (FZ J J J (by kernel_rfl)) ?_;refine Ym ?_;refine BF.split 10 J (fun k1_3=>?_) (fun k1_3=>?_)
 .have hne:i≠noI:=by
   rw[NB] at k1_3;simpa using k1_3
  obtain⟨hi0,hi1⟩:=hi hne;obtain⟨ad',cap',hvw,hci⟩:=hl'.cell (i:=i.2) hi0 hi1;rw[hv] at hvw;cases hvw;refine Yz [4] ?_;refine Yg ?_ (hh:=by exact(Bh hg (by unfold IR;rw[hv];rfl)));refine Yz [1,0] ?_;refine Yj (ad.add i.2.toNat) ?_;refine Yh (A7 hci) ?_;refine Yz [4] ?_;refine Yg ?_ (hh:=by exact(Bh hg (by unfold IR;rw[hv];rfl)));refine Ym ?_;refine Yj (ad.add e.toNat) ?_;refine Yh (A7 hc) ?_;refine Yz [3] ?_;refine AF J ?_;simp only[zq,zr];refine Aa<|At ?_;refine DN 6 ?_;refine Zh ?_;refine⟨J,_,J,?_⟩
  first
  | (simp only[decide_eq_true_eq];exact⟨fun h=>⟨hne,h⟩,fun h=>h.2⟩)
  | (exact⟨fun h=>absurd h (by simp),fun h=>absurd hne h.1⟩)
 have hne:i=noI:=by
  rw[NB] at k1_3;simpa using k1_3
 refine Yz [20] ?_;refine AF J ?_;simp only[zq,zr];refine Aa<|At ?_;refine DN 6 ?_;refine Zh ?_;refine⟨J,_,J,?_⟩
 first
 | (simp only[decide_eq_true_eq];exact⟨fun h=>⟨hne,h⟩,fun h=>h.2⟩)
 | (exact⟨fun h=>absurd h (by simp),fun h=>absurd hne h.1⟩)
abbrev ipV(q:IP):Value:=.agg (GJ q).toArray
theorem RP{q:IP}(hg:Qd w c vp)(hG:EM w)(hl:FD w c.u0 lo)(hne:q.1=noI->q.2≠noI)(hr:∀i,i=q.1\/i=q.2->i≠noI->0<=i.1/\i.1<lo.length):
  Calls A1c 99 #[.pointer (some ⟨c.g,0,none⟩),ipV q] w (Ret w [] fun r L=>L=[]/\r= Iv (Wr (Ae lo) q)):=by
 have hl':=hl;obtain⟨A,cap,hv,_,hlc,hcm,hll⟩:=hl;have hx:∀i,i=q.1\/i=q.2->i≠noI->∃ad,A=some ad/\w.cell? (ad.add i.1.toNat)=some (Iv (Ae lo i.1)):=fun i hi hn=>by
  obtain⟨ad,cp,e,h⟩:=hl'.cell (i:=i.1) (hr i hi hn).1 (hr i hi hn).2;rw[hv] at e;cases e;exact⟨ad,J,h⟩
 refine cO Tryz.func99 Tryz.ntmps99<|Zs ?_;refine ZB fun g3=>?_;refine Za<|Zx<|Ai<|As<|Zs ?_;refine Zz [1] ?_;refine CR [_,_] ?_;refine Zu (A4 (vs:=[_,_]) J J Dp CE J (Jb hG (by simp) J)) ?_;refine Zo (EZ J J J (by kernel_rfl)) ?_;refine Za<|Zx ?_;refine Zd ?_ ?_<;>intro c1
 .have e1:q.1=noI:=by rw[NB] at c1;simpa using c1
  have n2:=hne e1;have r2:=hr q.2 (.inr rfl) n2;obtain⟨ad,rfl,hc2⟩:=hx q.2 (.inr rfl) n2;refine Ai ?_;refine Fv 1010010000 11 ?_;refine Yz [4] ?_;refine Yg ?_ (hh:=by exact(Bh hg (by unfold IR;rw[hv];rfl)));refine Yz [2,0] ?_;refine Yj (ad.add q.2.1.toNat) ?_;refine Yh (A7 hc2) ?_;refine Yz [1] ?_;refine AF J ?_;simp only[zq,zr];refine Aa<|At<|Am<|Ad ?_;refine DN 4 ?_;refine Zh ?_;exact⟨J,by unfold Wr;rw[if_pos e1]⟩
 have n1:q.1≠noI:=by rw[NB] at c1;simpa using c1
 have r1:=hr q.1 (.inl rfl) n1;obtain⟨ad,rfl,hc1⟩:=hx q.1 (.inl rfl) n1;refine Zs<|Zz [1] ?_;refine CR [_,_] ?_;refine Zu (A4 (vs:=[_,_]) J J Dp CE J (Jb hG (by simp) J)) ?_;refine Zo (EZ J J J (by kernel_rfl)) ?_;refine Za<|Zx ?_;refine Zd ?_ ?_<;>intro c3
 .have e2:q.2=noI:=by rw[NB] at c3;simpa using c3
  refine Ai ?_;refine Fv 1010010000 11 ?_;refine Yz [4] ?_;refine Yg ?_ (hh:=by exact(Bh hg (by unfold IR;rw[hv];rfl)));refine Yz [2,0] ?_;refine Yj (ad.add q.1.1.toNat) ?_;refine Yh (A7 hc1) ?_;refine Yz [1] ?_;refine AF J ?_;simp only[zq,zr];refine Aa<|At<|Am<|Ad ?_;refine DN 4 ?_;refine Zh ?_;exact⟨J,by unfold Wr;rw[if_neg n1,if_pos e2]⟩
 have n2:q.2≠noI:=by rw[NB] at c3;simpa using c3
 have r2:=hr q.2 (.inr rfl) n2;obtain⟨ad2,e2,hc2⟩:=hx q.2 (.inr rfl) n2;cases e2;refine Ao<|An<|Aa<|Ai ?_;refine Fv 10100100001010010000 22 ?_;refine Yz [4] ?_;refine Yg ?_ (hh:=by exact(Bh hg (by unfold IR;rw[hv];rfl)));refine Yz [2,0] ?_;refine Yj (ad.add q.1.1.toNat) ?_;refine Yh (A7 hc1) ?_;refine Yz [4] ?_;refine Yg ?_ (hh:=by exact(Bh hg (by unfold IR;rw[hv];rfl)));refine Yz [2,0] ?_;refine Yj (ad.add q.2.1.toNat) ?_;refine Yh (A7 hc2) ?_;refine Yo J (Ob J J J) ?_;refine Yz [1] ?_;refine AF J ?_;simp only[zq,zr];refine Aa<|At ?_;refine DN 4 ?_;refine Zh ?_;exact⟨J,by unfold Wr;rw[if_neg n1,if_neg n2]⟩
end
structure TS where
 vp:Value
 st:List IP
 ref:List Int
 side:List Int
 bot:List Int
 low:List Int
abbrev BK(c:TC)(vp:Value):Chunk:=AC c.g 68 (IR c vp)
abbrev EY(vp:Value)(st:List IP):Chunk:=Bf vp 136 4 (quads st)
abbrev Cf(g:Nat)(xs:List Int):Chunk:=AC g 3 (AA xs).toArray
abbrev TL(c:TC)(s:TS):List Chunk:=[BK c s.vp,EY s.vp s.st,Cf c.gr s.ref,Cf c.gs s.side,Cf c.gb s.bot,Cf c.gl s.low]
section
variable{w:World}{c:TC}{vp:Value}{es:List Pr}{pa he oi lo:List Int}{out:List (List Int)}
theorem Gh{st:List IP}{q:IP}(hO:AR w (AY [BK c vp,EY vp (st++[q])]) w [BK c vp,EY vp (st++[q])]):
  Calls A1c 100 #[.pointer (some ⟨c.g,0,none⟩)] w (Ret w (AY [BK c vp,EY vp (st++[q])]) fun r M=>∃vp',r=ipV q/\M=[BK c vp',EY vp' st]):=by
 obtain⟨A,cap,rfl,hlc,hcm,hA⟩:=Mf hO (i:=1) rfl;obtain⟨ad,rfl⟩:=hA (by simp);have hlen:(st++[q]).length=st.length+1:=by simp
 rw[hlen] at hO hlc ⊢;refine BO (args:=[_]) Tryz.func100 J Tryz.ntmps100 J hO<|Zs ?_;refine ZA Gf fun g2=>Zx<|Ai ?_;refine Fv 32100010001000 14 ?_;refine Yz [3,3,0] ?_;refine Yo J (EC J J Tryz.underlying66) ?_;refine Yz [1] ?_;refine Yo J (Bz (ad':=ad.add (st.length*4)) J J J Tryz.underlying66 Eg (by omega) (by omega) (by rw[show(((st.length+1:Nat):Int)-1).toNat=st.length by omega])) ?_;refine Bp J J J J (A4 (vs:=[_,_,_,_]) J J M5 Eg J (JE (i:=2) J)) ?_;refine A8 J J J J (DL J Gf J) fun g3=>?_;refine BF.sto (V:=[AC g3 136 #[Iv 0,Iv 0,Iv 0,Iv 0],AC g2 136 #[Iv 0,Iv 0,Iv 0,Iv 0],BK c (.slice (some ad) (st.length+1) cap),EY (.slice (some ad) (st.length+1) cap) (st++[q])]) J J J J J (B3 (cs':=#[_,_,_,_]) J J J Eg J (A1f J) J) PN ?_;refine AF J ?_;simp only[zq,zr];refine Aa<|Ai ?_;refine Fv 300000100010000 15 ?_;refine Yz [4,3,0] ?_;refine Yo J (EC J J Tryz.underlying66) ?_;refine Yz [1] ?_;refine Yo J (FY (hi:=st.length) J J ((show _=some (Value.int .i64 (((st.length+1:Nat):Int)-1)) from J).trans (by congr 2;omega)) Tryz.underlying66 Eg (by omega)) ?_;refine Yz [2] ?_;refine AO J J J J (AP (cs':=IR c (.slice (some ad) st.length cap)) J J J A0E J (by show 10<15;decide) J) PN ?_;refine AF J ?_;simp only[zq,zr];refine Aa<|Zs ?_;refine CR [_,_,_,_] ?_;refine Zq #[_,_,_,_]<|Zx<|At ?_;refine Co (cs:=#[_,_,_,_]) (.inl J) J J M5 Eg ?_;exact⟨_,fun w hw=>(X5 (hw.pick (Et (CY .nil)))).perm (.swap _ _ _),_,J,J⟩
theorem HR{i j:Int×Int}{ref:List Int}(hO:AR w (AY [BK c vp,Cf c.gr ref]) w [BK c vp,Cf c.gr ref])(hG:Dk w (AY [BK c vp,Cf c.gr ref]) EM)(hm:ref.length=c.m)(hc:c.m<=17592186044416)(hi:i≠noI->0<=i.1/\i.1<c.m):
  Calls A1c 127 #[.pointer (some ⟨c.g,0,none⟩),ivV i,ivV j] w (Ret w (AY [BK c vp,Cf c.gr ref]) fun r M=>∃ref',r=ivV (undr i j)/\M=[BK c vp,Cf c.gr ref']/\ref'.length=c.m/\fI ref'=EQ (fI ref) i j):=by
 refine BO (args:=[_,_,_]) Tryz.func127 J Tryz.ntmps127 J hO<|Zs ?_;refine ZB fun g4=>?_;refine ZB fun g5=>?_;refine ZA ze134 fun g6=>Zx<|Ai<|As<|Zs ?_;refine CR [_,_] ?_;refine Zu (A4 (vs:=[_,_]) J J Dp CE J (Da hG (fun _ h=>h) J)) ?_;refine Zo (EZ J J J (by kernel_rfl)) ?_;refine Za<|Zx ?_;refine Zd ?_ ?_<;>intro c1
 .refine Zs ?_;refine CR [_,_] ?_;refine Zq #[_,_]<|Zx<|At<|Am<|Ad ?_;refine Co (cs:=#[_,_]) (.inl J) J J Dp CE ?_;have e1:j=noI:=by rw[NB] at c1;simpa using c1
  refine⟨_,fun w hw=>hw.pick (Et (Et .nil)),ref,?_,J,hm,?_⟩
  .unfold undr;rw[if_pos e1]
  unfold EQ;rw[if_pos e1]
 have n1:j≠noI:=by rw[NB] at c1;simpa using c1
 refine Zs ?_;refine CR [_,_] ?_;refine Zu (A4 (vs:=[_,_]) J J Dp CE J (Da hG (fun _ h=>h) J)) ?_;refine Zo (EZ J J J (by kernel_rfl)) ?_;refine Za<|Zx ?_;refine Zd ?_ ?_<;>intro c3
 .refine Zs ?_;refine CR [_,_] ?_;refine Zq #[_,_]<|Zx<|At<|Am<|Ad ?_;refine Co (cs:=#[_,_]) (.inl J) J J Dp CE ?_;have e2:i=noI:=by rw[NB] at c3;simpa using c3
  refine⟨_,fun w hw=>hw.pick (Et (Et .nil)),ref,?_,J,hm,?_⟩
  .unfold undr;rw[if_neg n1,if_pos e2]
  unfold EQ;rw[if_neg n1,if_pos e2]
 have n2:i≠noI:=by rw[NB] at c3;simpa using c3
 obtain⟨hi0,hi1⟩:=hi n2;refine Ao<|An<|Aa<|Ai ?_;refine Fv 3010101000 10 ?_;refine Yz [3,1,1,0] ?_;refine Yj ⟨c.gr,i.1.toNat,none⟩ ?_;refine AO J J J J (AP (cs':=(AA (ref.set i.1.toNat j.2)).toArray) J J J Bw J (by simp;omega) BP) PN ?_;refine AF J ?_;simp only[zq,zr];refine Aa<|Zs<|Zz [1,1,0] ?_;refine ZS #[_,_] bs134 ?_;refine Zq #[_,_]<|Zx<|At ?_;refine Co (cs:=#[_,_]) (.inl J) J J Dp CE ?_;refine⟨_,fun w hw=>hw.pick (Et (Et .nil)),ref.set i.1.toNat j.2,?_,J,by simpa using hm,?_⟩
 .unfold undr;rw[if_neg n1,if_neg n2]
 unfold EQ;rw[if_neg n1,if_neg n2];exact Ub hi0 (by omega)
end
def LsP(w:World)(v:Value)(uo:List Value)(ls:List (List Int)):Prop:=
 ∃A cap,v= .slice A ls.length cap/\uo.length=ls.length/\(∀(i:Nat) lv l,uo[i]? =some lv->ls[i]? =some l->(∃ad,A=some ad/\w.cell? (ad.add i)=some lv)/\FD w lv l)/\ls.length<=cap/\cap<=9223372036854775807/\ls.length<=17592186044416
theorem TM{w0:World}{K:List Nat}{Φ:World->Prop}{v:Value}{uo:List Value}{ls:List (List Int)}{i:Nat}{l:List Int}(hD:Dk w0 K Φ)(h:∀w,Φ w->LsP w v uo ls)(hi:ls[i]? =some l):∃ad cap lv,v= .slice (some ad) ls.length cap/\ls.length<=cap/\cap<=9223372036854775807/\(∀L,Ll w0 K L (ad.add i) lv)/\
  ∃Al capl,lv= .slice Al l.length capl/\l.length<=capl/\capl<=9223372036854775807/\∀(j:Nat) x,l[j]? =some x->∃adl,Al=some adl/\∀L,Ll w0 K L (adl.add j) (Iv x):=by
 obtain⟨A,cap,e,hu,hr,h1,h2,h3⟩:=h _ hD.here;have hlt:=(A1e.1 hi).1;obtain⟨lv,hlv⟩:∃lv,uo[i]? =some lv:=⟨_,A1d (by omega)⟩;obtain⟨⟨ad,rfl,hc⟩,hs⟩:=hr i lv l hlv hi;obtain⟨Al,capl,el,g1,g2,g3,g4⟩:=EW (hD.imp fun w hw=>(by
  obtain⟨A',cap',e',_,hr',_⟩:=h w hw;exact(hr' i lv l hlv hi).2:FD w lv l)) fun _ h=>h;refine⟨ad,cap,lv,e,h1,h2,fun L w hw=>?_,Al,capl,el,g1,g2,fun j x hx=>?_⟩
 .obtain⟨A',cap',e',_,hr',_⟩:=h _ (hD.own hw);rw[e] at e';cases e';obtain⟨⟨ad',e2,hc'⟩,_⟩:=hr' i lv l hlv hi;cases e2;exact hc'
 have hj:=(A1e.1 hx).1;obtain⟨adl,e3,hh⟩:=g4 j (by omega) (by omega);refine⟨adl,e3,fun L=>?_⟩;have:=hh L;rw[EF,hx] at this;simpa using this
structure DtV (c:TC) (es:List Pr) (pa he oi lo:List Int) (out:List (List Int)) (w:World):Prop where
 hE:DX w c.vE es
 h0:FD w c.v0 pa
 h1:FD w c.v1 he
 h3:FD w c.v3 oi
 hl:FD w c.u0 lo
 ho:LsP w c.u3 c.uo out
 hG:EM w
def Z7(xs:List Int):Prop:=∀x,x∈xs->x=1\/x= -1
theorem Z7.set{xs:List Int}{i:Nat}{a:Int}(h:Z7 xs)(ha:a=1\/a= -1):Z7 (xs.set i a):=fun x hx=>by
 rcases List.mem_or_eq_of_mem_set hx with g|g
 .exact h x g
 rw[g];exact ha
section
variable{w:World}{c:TC}{vp:Value}{es:List Pr}{pa he oi lo:List Int}{out:List (List Int)}
theorem LW{i o:Int×Int}{u:Int}{ref side:List Int}{R:(Int->Int)->Int×Int->Prop}(hO:AR w (AY [BK c vp,Cf c.gr ref,Cf c.gs side]) w [BK c vp,Cf c.gr ref,Cf c.gs side])(hD:Dk w (AY [BK c vp,Cf c.gr ref,Cf c.gs side]) (DtV c es pa he oi lo out))
 (hm:ref.length=c.m)(hs:side.length=c.m)(hc:c.m<=17592186044416)(hes:es.length=c.m)(hol:oi.length=es.length)(hP:Z7 side)(h0:i=noI->R (fI ref) noI)
 (hT:i≠noI->∃TI:Int->Nat->Prop,(∃n,TI i.2 n)/\∀z n,TI z n->((0<=z/\z<es.length)/\(Ae oi z=2*z\/Ae oi z=2*z+1))/\(AD es (Ae oi z)≠u->R (fI ref) (i.1,z))/\(AD es (Ae oi z)=u->z=i.1->R (HO (fI ref) i.1 o.1) noI)/\(AD es (Ae oi z)=u->z≠i.1->∃n',n=n'+1/\TI (fI ref z) n')):
  Calls A1c 101 #[.pointer (some ⟨c.g,0,none⟩),ivV i,ivV o,Iv u] w (Ret w (AY [BK c vp,Cf c.gr ref,Cf c.gs side]) fun r M=>∃i' ref' side',r=ivV i'/\M=[BK c vp,Cf c.gr ref',Cf c.gs side']/\ref'.length=c.m/\side'.length=c.m/\Z7 side'/\R (fI ref') i'):=by
 refine BO (args:=[_,_,_,_]) Tryz.func101 J Tryz.ntmps101 J hO<|Zs ?_;refine ZB fun g5=>?_;refine ZB fun g6=>?_;refine ZA ze134 fun g8=>Zx<|Ai<|Zs ?_;refine CR [_,_] ?_;refine Zu (A4 (vs:=[_,_]) J J Dp CE J (Da hD (fun _ h=>h.hG) J)) ?_;refine Zo (EZ J J J (by kernel_rfl))<|Zx ?_;refine Zd ?_ ?_<;>intro c1
 .refine Zs ?_;refine CR [_,_] ?_;refine Zq #[_,_]<|Zx<|At<|Ad ?_;refine Co (cs:=#[_,_]) (.inl J) J J Dp CE ?_;have e1:i=noI:=by rw[NB] at c1;simpa using c1
  subst e1;exact⟨_,fun w hw=>hw.pick (Et (Et (Et .nil))),noI,ref,side,J,J,hm,hs,hP,h0 J⟩
 have n1:i≠noI:=by rw[NB] at c1;simpa using c1
 obtain⟨TI,⟨n0,hn0⟩,hTI⟩:=hT n1;refine Ao<|Aa ?_;let ca:=AC g8 134 #[Iv 0,Iv 0];let cb:=AC g6 134 #[Iv o.1,Iv o.2];refine DC.cut (ι:=Unit) (fun _=>R (HO (fI ref) i.1 o.1) noI/\0<=i.1/\i.1<c.m) (fun _=>[(0,.pointer (some ⟨c.g,0,none⟩)),(5,Pv g5),(6,Pv g6),(8,Pv g8)])
  (fun _=>[ca,cb,AC g5 134 #[Iv i.1,Iv (-1)],BK c vp,Cf c.gr ref,Cf c.gs side]) ?firstb0 ?restb0
 case firstb0=>
  refine As ?_;refine AS (ι:=Int×Nat) (fun j=>TI j.1 j.2) (fun _=>[(0,.pointer (some ⟨c.g,0,none⟩)),(3,Iv u),(5,Pv g5),(6,Pv g6),(8,Pv g8)])
   (fun j=>[ca,cb,AC g5 134 #[Iv i.1,Iv j.1],BK c vp,Cf c.gr ref,Cf c.gs side]) (fun j=>j.2) (i.2,n0) hn0 ⟨J,J,J,J,J,trivial⟩ (Ay _) ?_;rintro⟨z,n⟩ hz;dsimp only at hz ⊢;obtain⟨⟨⟨z0,z1⟩,zo⟩,y1,y2,y3⟩:=hTI z n hz;refine Ai<|Zs<|Zz [1,1]<|Zx ?_;refine Zd ?_ ?_<;>intro c3
  .refine Ao<|Aa<|As<|Ai<|Zs<|Zz [2,0] ?_;refine AL J J (AH en55 J J J (fun w hw=>HS (vp:=vp) (hw.holds (BK c vp) (by simp)) (hD.own hw).hE (hD.own hw).h3 z0 z1 hol zo)) ?_;rintro _ rfl;refine Zz [5]<|Zx<|Zs ?_;refine Zz [3]<|Zx ?_;refine Zd ?_ ?_<;>intro c5
   .refine Zs ?_;refine CR [_,_] ?_;refine Zq #[_,_]<|Zx<|At<|Ad<|Am<|Ad<|Am<|Ad ?_;refine Co (cs:=#[_,_]) (.inl J) J J Dp CE ?_;have hne:AD es (Ae oi z)≠u:=by simpa using c5
    exact⟨_,fun w hw=>hw.pick (Et (Et (Et .nil))),(i.1,z),ref,side,J,J,hm,hs,hP,y1 hne⟩
   have hu:AD es (Ae oi z)=u:=by simpa using c5
   refine Ao<|Aa<|Ai<|Zs<|Zz [1,1,1]<|Zx ?_;refine Zd ?_ ?_<;>intro c7
   .refine Zs<|Zz [1] ?_;refine Jj #[_,_]<|Zx<|AN<|Ag<|Fb (by decide)<|Ag<|Aq ?_;refine Be () ⟨y2 hu (by simpa using c7),?_,?_⟩ ⟨J,J,J,J,trivial⟩ (Ay _)
    .have:z=i.1:=by simpa using c7
     omega
    have:z=i.1:=by simpa using c7
    omega
   obtain⟨n',rfl,hn'⟩:=y3 hu (by simpa using c7);have hz2:=Gm (l:=ref) z0 (by omega);refine Ao<|Aa ?_;refine Fv 3010101000 10 ?_;refine Yz [3,1,0] ?_;refine Yj ⟨c.gr,z.toNat,none⟩ ?_;refine Yh (AK (Br hz2)) ?_;refine Yz [1] ?_;refine AO J J J J (AP (cs':=#[_,_]) J J J Bw J (A1f J) J) PN ?_;refine AF J ?_;simp only[zq,zr];refine An ?_;exact AB (fI ref z,n') (by dsimp only;omega) hn' ⟨J,J,J,J,J,trivial⟩ (Ay _)
  exact absurd (show z= -1 by simpa using c3) (by omega)
 rintro _ ⟨hR,hi0,hi1⟩;refine Ai ?_;refine Fv 3010101000 10 ?_;refine Yz [3,1,1,0] ?_;refine Yj ⟨c.gr,i.1.toNat,none⟩ ?_;refine AO J J J J (AP (cs':=(AA (ref.set i.1.toNat o.1)).toArray) J J J Bw J (by simp;omega) BP) PN ?_;refine AF J ?_;simp only[zq,zr];refine Aa<|Ai ?_;refine Fv 30101000 8 ?_;refine Yz [3,1,0] ?_;refine Yj ⟨c.gs,i.1.toNat,none⟩ ?_;refine AO J J J J (AP (cs':=(AA (side.set i.1.toNat (-1))).toArray) J J J Bw J (by simp;omega) BP) PN ?_;refine AF J ?_;simp only[zq,zr];refine Aa<|Zs ?_;refine Zu (A4 (vs:=[_,_]) J J Dp CE J (Da hD (fun _ h=>h.hG) J)) ?_;refine Zq #[_,_]<|Zx<|At ?_;refine Co (cs:=#[_,_]) (.inl J) J J Dp CE ?_;refine⟨_,fun w hw=>hw.pick (Et (Et (Et .nil))),noI,ref.set i.1.toNat o.1,side.set i.1.toNat (-1),J,J,by simpa using hm,by simpa using hs,hP.set (.inr J),?_⟩;rw[Ub hi0 (by omega)];exact hR
end
theorem CU{l:List Int}{a b:Int}(h0:0<=a)(h1:a.toNat<l.length):fI (l.set a.toNat b)=HO (fI l) a b:=Ub h0 h1
theorem Dk.sub{w w1:World}{K:List Nat}{L L1:List Chunk}{Φ:World->Prop}(h:Dk w K Φ)(hw:AR w K w1 L1)(hs:L.Sublist L1):Dk w1 (AY L) Φ:=h.step hw fun k hk=>(IU hs).subset hk
abbrev DT(out:List (List Int))(v:Int):List Int:=(out[v.toNat]?).getD []
structure LnT (c:TC) (es:List Pr) (pa he oi lo:List Int) (out:List (List Int)):Prop where
 m:es.length=c.m
 mb:c.m<=4194304
 N0:0<=c.N
 N1:c.N<=1048576
 pa:(pa.length:Int)=c.N
 he:(he.length:Int)=c.N
 oi:oi.length=es.length
 lo:lo.length=es.length
 out:(out.length:Int)=c.N
theorem G9(a:List IP)(q:IP):quads (a++[q])=quads a++GJ q:=by rw[quads_append];simp[quads]
structure LvJ where
 vp:Value
 st:List IP
 ref:List Int
 side:List Int
section
variable{w:World}{c:TC}{vp:Value}{es:List Pr}{pa he oi lo:List Int}{out:List (List Int)}
theorem NA{e u:Int}{st:List IP}{ref side:List Int}{S P:PL}{U:Int->Prop}
 (hO:AR w (AY [BK c vp,EY vp st,Cf c.gr ref,Cf c.gs side]) w [BK c vp,EY vp st,Cf c.gr ref,Cf c.gs side])(hD:Dk w (AY [BK c vp,EY vp st,Cf c.gr ref,Cf c.gs side]) (DtV c es pa he oi lo out))
 (hn:LnT c es pa he oi lo out)(hm:ref.length=c.m)(hs:side.length=c.m)(hP:Z7 side)(hF:CD es (Ae pa) (Ae he) (Ae oi) c.N)(hL:B9 es (Ae pa) (Ae he) (Ae oi) (Ae lo) c.N (DT out))
 (hp:LvP es (Ae pa) (Ae he) (Ae oi) u S P)(hv:LV es (Ae pa) (Ae he) (Ae oi) (Ae lo) u es.length S P U (fI ref) st)(hU:∀b,b∈Bm (S++P)->U (b / 2))(hbk:∀b,b∈Bm (S++HD (Gw es (Ae he) u) P)->DO es (Ae pa) (Ae oi) b)
 (hne:Ae lo e<Ae he u->HD (Gw es (Ae he) u) P≠[])(h0:0<=e)(h1:e<es.length)(hnb:¬FL es (Ae pa) (Ae oi) e)(hUe:U e)(u0:0<=u)(u1:u<c.N):
  Calls A1c 57 #[.pointer (some ⟨c.g,0,none⟩),Iv e,Iv u] w (Ret w (AY [BK c vp,EY vp st,Cf c.gr ref,Cf c.gs side]) fun r M=>r= .tuple #[]/\∃vp' st' ref' side',M=[BK c vp',EY vp' st',Cf c.gr ref',Cf c.gs side']/\
   ref'.length=c.m/\side'.length=c.m/\Z7 side'/\Sta (Ae lo) (fI ref') (S++HD (Gw es (Ae he) u) P) st'/\HM (FL es (Ae pa) (Ae oi)) U (fI ref') es.length):=by
 have hmb:=hn.mb;have hnm:=hn.m;have hnoi:=hn.oi;have hnlo:=hn.lo;have hnhe:=hn.he;obtain⟨Al,cl,hvl,hlc,hlm,hlf,hcl⟩:=EW hD (fun _ h=>h.hl);obtain⟨Ah,ch,hvh,hhc,hhm,hhf,hch⟩:=EW hD (fun _ h=>h.h1);obtain⟨adh,rfl,hchu⟩:=hch u u0 (by omega);obtain⟨adl,rfl,hcle⟩:=hcl e h0 (by omega);have oio:∀z:Int,0<=z->z<es.length->Ae oi z=2*z\/Ae oi z=2*z+1:=hF.ori;have bound:∀{st r},LV es (Ae pa) (Ae he) (Ae oi) (Ae lo) u es.length S P U r st->st.length<=es.length*2:=fun{st r} hv=>by
  obtain⟨Pr,Pd,rfl,q2,q3,q4,q5⟩:=hv;have a1:=q3.length;have a2:=LL (P:=S++Pr) fun p hp'=>hp.ful p (by
   rcases A1C.1 hp' with g|g
   .simp[g]
   simp[g]);have a3:=L6 q5;rw[By] at a2 a3;simp only[A1V] at a1 a2 a3;omega
 refine BO (args:=[_,_,_]) Tryz.func57 J Tryz.ntmps57 J hO ?_;refine DC.cut (ι:=LvJ) (fun j=>LV es (Ae pa) (Ae he) (Ae oi) (Ae lo) u es.length S P U (fI ref) j.st/\j.side.length=c.m/\Z7 j.side/\(j.st=[]\/∃st' x,j.st=st'++[x]/\Wr (Ae lo) x≠Ae he u)) (fun j=>[(0,.pointer (some ⟨c.g,0,none⟩)),(1,Iv e),(2,Iv u)])
  (fun j=>[BK c j.vp,EY j.vp j.st,Cf c.gr ref,Cf c.gs j.side]) ?firstb0 ?restb0
 case firstb0=>
  refine As ?_;refine AS (ι:=LvJ) (fun j=>LV es (Ae pa) (Ae he) (Ae oi) (Ae lo) u es.length S P U (fI ref) j.st/\j.side.length=c.m/\Z7 j.side) (fun j=>[(0,.pointer (some ⟨c.g,0,none⟩)),(1,Iv e),(2,Iv u)])
   (fun j=>[BK c j.vp,EY j.vp j.st,Cf c.gr ref,Cf c.gs j.side]) (fun j=>j.st.length) ⟨vp,st,ref,side⟩ ⟨hv,hs,hP⟩ ⟨J,J,J,trivial⟩ (Ay _) ?_;rintro⟨vp,st,_,side⟩ ⟨hv,hs,hP⟩;dsimp only at hv hs hP ⊢;have hstb:=bound hv;refine DC.quads (i:=1) J ?_;rintro A cap rfl hcl1 hcm1 hA1;refine Ai<|Ai ?_;refine Fv 10010000410001000100000001000 31 ?_;refine Yz [3,0] ?_;refine Yo J (EC J J Tryz.underlying66) ?_;refine Yz [2] ?_;refine BF.split 15 J (fun k0_6=>?_) (fun k0_6=>?_)
  .have hst:st≠[]:=fun h=>by subst h;simp at k0_6
   obtain⟨ad,rfl⟩:=hA1 hst;obtain⟨st',x,hstx,t1,t2,t3,t4⟩:=hv.top hF hL hp hst;subst hstx;have hlen:(st'++[x]).length=st'.length+1:=by simp
   refine Yz [4,3,0] ?_;refine Yo J (EC J J Tryz.underlying66) ?_;refine Yz [1] ?_;refine Yo J (Bz (ad':=ad.add (st'.length*4)) J J J Tryz.underlying66 Eg (by rw[hlen];omega) (by rw[hlen];omega) (by rw[show(((st'++[x]).length:Int)-1).toNat=st'.length by rw[hlen];omega])) ?_;refine Bp J J J J (A4 (vs:=[_,_,_,_]) J J M5 Eg J (JE (i:=1) J)) ?_;refine BF.rel0 J J J J (AH en99 J J J (fun w hw=>RP (q:=x) (hw.holds (BK c _) (A1m ..)) (hD.own hw).hG (hD.own hw).hl t1 (fun i hi hni=>by have:=(t2 i hi hni).1;omega))) ?_;rintro _ rfl;refine Yz [4] ?_;refine Yg ?_ (hh:=by exact(AK (by unfold IR;rw[hvh];rfl)));refine Ym ?_;refine Yj (adh.add u.toNat) ?_;refine Yh (hchu _) ?_;refine Yz [2] ?_;refine AF J ?_;simp only[zq,zr];refine Aa ?_;refine Zd ?_ ?_<;>intro c0
   .rw[hlen];refine Ao<|Aa<|As<|Zs<|Zm ?_;refine AU J J (BT Vr J J J (Lc:=[BK c (.slice (some ad) (st'.length+1) cap),EY (.slice (some ad) (st'.length+1) cap) (st'++[x])]) (F:=[Cf c.gr ref,Cf c.gs side]) (.refl _) (fun k hk=>hk) (fun w hw=>Gh (hw.sub (A1J [BK c _,EY _ _] _)).self)) ?_;rintro _ _ ⟨_,⟨vp',rfl,rfl⟩,rfl⟩;simp only[zs];refine ZA Gf fun g6=>?_;refine Zq #[_,_,_,_]<|Zx<|Zs ?_;refine Zz [1] ?_;refine CR [_,_] ?_;refine Zu (A4 (vs:=[_,_]) J J Dp CE J (Da hD (fun _ h=>h.hG) J)) ?_;refine Zo (FZ J J J (by kernel_rfl))<|Zx ?_;refine Zd ?_ ?_<;>intro c2
    .have n1:x.1≠noI:=by rw[NB] at c2;simpa using c2
     have r1:=(t2 x.1 (.inl rfl) n1).1;refine Fv 301001000 9 ?_;refine Yz [3,2,0] ?_;refine Yj ⟨c.gs,x.1.1.toNat,none⟩ ?_;refine AO J J J J (AP (cs':=(AA (side.set x.1.1.toNat (-1))).toArray) J J J Bw J (by simp;omega) BP) PN ?_;refine AF J ?_;simp only[zq,zr];refine An ?_;have hq:Wr (Ae lo) x=Ae he u:=by simpa using c0
     exact AB ⟨vp',st',ref,side.set x.1.1.toNat (-1)⟩ (by dsimp only;omega) ⟨t3 hq,by simpa using hs,hP.set (.inr J)⟩ ⟨J,J,J,trivial⟩ (BC (BC (BC (BC .nil))))
    refine Ao<|An ?_;have hq:Wr (Ae lo) x=Ae he u:=by simpa using c0
    exact AB ⟨vp',st',ref,side⟩ (by dsimp only;omega) ⟨t3 hq,hs,hP⟩ ⟨J,J,J,trivial⟩ (BC (BC (BC (BC .nil))))
   refine AN<|Ag<|Ag<|Aq ?_
   first
   | (exact Be ⟨_,_,ref,side⟩ ⟨hv,hs,hP,.inr ⟨st',x,rfl,by simpa using c0⟩⟩ ⟨rfl,rfl,rfl,trivial⟩ (Ay _))
   | (exact Be ⟨_,_,ref,side⟩ ⟨hv,hs,hP,.inl hst⟩ ⟨rfl,rfl,rfl,trivial⟩ (Ay _))
  have hst:st=[]:=by
   cases st with
   | nil=>rfl
   | cons a b=>simp at k0_6
  refine Yz [24] ?_;refine AF J ?_;simp only[zq,zr];refine Aa ?_;refine BN J<|AN<|Ag<|Ag<|Aq ?_
  first
  | (exact Be ⟨_,_,ref,side⟩ ⟨hv,hs,hP,.inr ⟨st',x,rfl,by simpa using c0⟩⟩ ⟨rfl,rfl,rfl,trivial⟩ (Ay _))
  | (exact Be ⟨_,_,ref,side⟩ ⟨hv,hs,hP,.inl hst⟩ ⟨rfl,rfl,rfl,trivial⟩ (Ay _))
 rintro⟨vp,st,_,side⟩ ⟨hv,hs,hP,hend⟩;dsimp only at hv hs hP hend ⊢;have hstb:=bound hv;refine DC.quads (i:=1) J ?_;rintro A cap rfl hcl1 hcm1 hA1;refine DC.cut (ι:=LvJ) (fun j=>Sta (Ae lo) (fI j.ref) (S++HD (Gw es (Ae he) u) P) j.st/\HM (FL es (Ae pa) (Ae oi)) U (fI j.ref) es.length/\j.ref.length=c.m/\j.side.length=c.m/\Z7 j.side) (fun j=>[(0,.pointer (some ⟨c.g,0,none⟩)),(1,Iv e),(2,Iv u)])
  (fun j=>[BK c j.vp,EY j.vp j.st,Cf c.gr j.ref,Cf c.gs j.side]) ?first8 ?rest8
 case first8=>
  refine Zs<|Zz [3,2]<|Zx ?_;refine Zd ?_ ?_<;>intro c4
  .have hst:st≠[]:=fun h=>by subst h;simp at c4
   obtain⟨ad,rfl⟩:=hA1 hst;obtain⟨st',x,hstx,t1,t2,t3,t4⟩:=hv.top hF hL hp hst;subst hstx;have hlst:Wr (Ae lo) x≠Ae he u:=by
    rcases hend with h|⟨st2,x2,h,h2⟩
    .exact absurd h hst
    obtain⟨_,e2⟩:=A2Y h rfl;simp at e2;rw[e2];exact h2
   obtain⟨T,r,hT,hr,hTe,hup,hsets,hA,hin⟩:=t4 hlst;have hUr:∀b,b∈B7 r->U (b / 2):=fun b hb=>hU b (hin b hb);have hlen:(st'++[x]).length=st'.length+1:=by simp
   rw[hlen] at hcl1 hstb ⊢;refine Zs<|Zm ?_;refine AU J J (BT Vr J J J (Lc:=[BK c (.slice (some ad) (st'.length+1) cap),EY (.slice (some ad) (st'.length+1) cap) (st'++[x])]) (F:=[Cf c.gr ref,Cf c.gs side]) (.refl _) (fun k hk=>hk) (fun w hw=>Gh (hw.sub (A1J [BK c _,EY _ _] _)).self)) ?_;rintro _ _ ⟨_,⟨vp',rfl,rfl⟩,rfl⟩;simp only[zs];refine ZA Gf fun g7=>?_;refine Zq #[_,_,_,_]<|Zx<|Zs ?_;refine Zz [2] ?_;refine CR [_,_] ?_;refine Zz [1] ?_;refine CR [_,_] ?_;refine Zm ?_;refine AU J J (D7 en101 J J J (Lc:=[BK c vp',Cf c.gr ref,Cf c.gs side]) (F:=[AC g7 136 (GJ x).toArray,EY vp' st']) (PK (BC (CY (CY (Bg (Bg .nil)))))) (fun _ h=>h)
    (fun w hw=>LW (R:=fun rf i'=>Z3 es (Ae he) (Ae lo) (fI ref) u r.1 x.1 x.2 rf i') (hw.sub (A1J [BK c vp',Cf c.gr ref,Cf c.gs side] _)).self (hD.sub hw (A1J [BK c vp',Cf c.gr ref,Cf c.gs side] _)) hm hs (by omega) hnm hnoi hP
     (fun e=>by rw[e];exact NU (by rw[<-e];exact hr.1)) (fun hni=>by
      obtain⟨TI,hn0,hTI⟩:=UG (o:=x.2) hF hL (hup.sub fun b hb=>AJ.2 (.inl hb)) hr.1 hni;exact⟨TI,hn0,fun z n hz=>by
       obtain⟨⟨z0,z1,_⟩,y1,y2,y3⟩:=hTI z n hz;exact⟨⟨⟨z0,z1⟩,oio z z0 z1⟩,y1,y2,y3⟩⟩))) ?_;rintro _ _ ⟨_,⟨i1,ref1,side1,rfl,rfl,hm1,hs1,hP1,hR1⟩,rfl⟩;simp only[zs];have hmid:=Oo hF hT hr hsets hA hUr hR1;refine Zz [1] ?_;refine Zy (B3 (cs':=#[Iv i1.1,Iv i1.2,Iv x.2.1,Iv x.2.2]) J J J CE J (by show 0+2<=4;decide) J)<|Zx<|Zs ?_;refine Zz [2] ?_;refine CR [_,_] ?_;refine Zz [1] ?_;refine CR [_,_] ?_;refine Zm ?_;refine AU J J (D7 en101 J J J (Lc:=[BK c vp',Cf c.gr ref1,Cf c.gs side1]) (F:=[AC g7 136 #[Iv i1.1,Iv i1.2,Iv x.2.1,Iv x.2.2],EY vp' st']) (PK (Ay _)) (fun _ h=>h)
    (fun w hw=>LW (R:=fun rf i'=>Z3 es (Ae he) (Ae lo) (fI ref1) u r.2 x.2 i1 rf i') (hw.sub (A1J [BK c vp',Cf c.gr ref1,Cf c.gs side1] _)).self (hD.sub hw (A1J [BK c vp',Cf c.gr ref1,Cf c.gs side1] _)) hm1 hs1 (by omega) hnm hnoi hP1
     (fun e=>by rw[e];exact NU (by rw[<-e];exact hmid.1)) (fun hni=>by
      obtain⟨TI,hn0,hTI⟩:=UG (o:=i1) hF hL (hup.sub fun b hb=>AJ.2 (.inr hb)) hmid.1 hni;exact⟨TI,hn0,fun z n hz=>by
       obtain⟨⟨z0,z1,_⟩,y1,y2,y3⟩:=hTI z n hz;exact⟨⟨⟨z0,z1⟩,oio z z0 z1⟩,y1,y2,y3⟩⟩))) ?_;rintro _ _ ⟨_,⟨i2,ref2,side2,rfl,rfl,hm2,hs2,hP2,hR2⟩,rfl⟩;simp only[zs];have hfin:=Wv hF hT hr hsets hA hUr hR1 hR2;refine Zz [1] ?_;refine Zy (B3 (cs':=#[Iv i1.1,Iv i1.2,Iv i2.1,Iv i2.2]) J J J CE J (by show 2+2<=4;decide) J)<|Zx ?_;refine Fv 30032110000 11 ?_;refine Yz [4,0] ?_;refine Bp J J J J (A4 (vs:=[_,_,_,_]) J J M5 Eg J (AW J)) ?_;refine A8 J J J J (Eo (cs:=#[_,_,_,_]) J J Tryz.underlying66 Eg Gf J (by decide) (by decide) J J) fun g84=>?_;let ca:=AC g84 136 #[Iv i1.1,Iv i1.2,Iv i2.1,Iv i2.2];let cb:=AC g7 136 #[Iv i1.1,Iv i1.2,Iv i2.1,Iv i2.2];refine C5 (V:=[ca,BK c vp',Cf c.gr ref2,Cf c.gs side2,cb,EY vp' st']) J J J J J (SP.shape (Bt (F:=[ca,BK c vp',Cf c.gr ref2,Cf c.gs side2,cb]) (vs:=quads st') (k:=1) (news:=GJ (i1,i2)) J J J Tryz.underlying66 Eg ZN Gf J (by decide) (by decide)
    (PK (Xn (Bg (Bg (Bg (Bg (Bg .nil))))))) (.inl ⟨_,_,rfl,AW rfl⟩) rfl (by intro u hu;simp[GJ] at hu;rcases hu with rfl|rfl|rfl|rfl<;>rfl) (by rw[quads_length];omega))) (fun v L' hC w hw=>hw.pick (.nil)) ?_;rintro _ _ ⟨⟨A85,l85,c85,rfl⟩,rfl⟩;refine Yz [2] ?_;refine AO J J J J (AP (cs':=IR c (.slice A85 l85 c85)) J J J A0E J (by show 10<15;decide) J) PN ?_;refine AF J ?_;simp only[zq,zr]
   first
   | (exact Be ⟨.slice A85 l85 c85,st'++[(i1,i2)],ref2,side2⟩ ⟨by rw[hTe];exact hfin.1,hfin.2,hm2,hs2,hP2⟩ ⟨rfl,rfl,rfl,trivial⟩ (CY (.cons' 0 rfl (congrArg (Bf _ _ _) (G9 st' (i1,i2)).symm) (BC (BC .nil)))))
   | (have hst:st=[]:=(by cases st with
     | nil=>rfl
     | cons a b=>simp at c4)
      subst hst;obtain⟨e1,e2,e3⟩:=hv.nil;exact Be ⟨_,[],ref,side⟩ ⟨by rw[e1,e2];exact .nil,e3,hm,hs,hP⟩ ⟨J,J,J,trivial⟩ (Ay _))
  refine Ao ?_
  first
  | (exact Be ⟨.slice A85 l85 c85,st'++[(i1,i2)],ref2,side2⟩ ⟨by rw[hTe];exact hfin.1,hfin.2,hm2,hs2,hP2⟩ ⟨rfl,rfl,rfl,trivial⟩ (CY (.cons' 0 rfl (congrArg (Bf _ _ _) (G9 st' (i1,i2)).symm) (BC (BC .nil)))))
  | (have hst:st=[]:=(by cases st with
    | nil=>rfl
    | cons a b=>simp at c4)
     subst hst;obtain⟨e1,e2,e3⟩:=hv.nil;exact Be ⟨_,[],ref,side⟩ ⟨by rw[e1,e2];exact .nil,e3,hm,hs,hP⟩ ⟨J,J,J,trivial⟩ (Ay _))
 rintro⟨vp,st,ref,side⟩ ⟨hS,hA,hm,hs,hP⟩;dsimp only at hS hA hm hs hP ⊢;refine Ai<|Ai ?_;refine Fv 1001000010010000 17 ?_;refine Yz [4] ?_;refine Yg ?_ (hh:=by exact(AK (by unfold IR;rw[hvl];rfl)));refine Ym ?_;refine Yj (adl.add e.toNat) ?_;refine Yh (hcle _) ?_;refine Yz [4] ?_;refine Yg ?_ (hh:=by exact(AK (by unfold IR;rw[hvh];rfl)));refine Ym ?_;refine Yj (adh.add u.toNat) ?_;refine Yh (hchu _) ?_;refine Yz [1] ?_;refine AF J ?_;simp only[zq,zr];refine Aa ?_;refine Zd ?_ ?_<;>intro c9
 .refine At<|Ad ?_
  skip
  refine BQ (.inl J) J ?_;exact⟨J,vp,st,ref,side,J,hm,hs,hP,hS,hA⟩
 have hlt:Ae lo e<Ae he u:=by simpa using c9
 obtain⟨Q,r,hQr⟩:∃Q r,S++HD (Gw es (Ae he) u) P=Q++[r]:=⟨_,_,(A3Q (fun c=>hne hlt (A3A.1 c).2)).symm⟩;have hS':=hS;rw[hQr] at hS';obtain⟨st',q,hst',hT,hr⟩:=hS'.last;subst hst';refine DC.quads (i:=1) J ?_;rintro A cap rfl hcl1 hcm1 hA1;obtain⟨ad,rfl⟩:=hA1 (by simp);have hlen:(st'++[q]).length=st'.length+1:=by simp
 have hbr:∀b,b∈B7 r->DO es (Ae pa) (Ae oi) b:=fun b hb=>hbk b (by rw[hQr,By,FJ];exact A1C.2 (.inr hb));have hb1:∀b,b∈r.1->DO es (Ae pa) (Ae oi) b:=fun b hb=>hbr b (AJ.2 (.inl hb));have hb2:∀b,b∈r.2->DO es (Ae pa) (Ae oi) b:=fun b hb=>hbr b (AJ.2 (.inr hb));have v1:q.1≠noI->0<=q.1.2/\q.1.2<es.length/\FL es (Ae pa) (Ae oi) q.1.2:=fun hni=>by
  obtain⟨_,g1,g2⟩:=hr.1.rng hF hb1 hni;exact⟨g1,g2,Ji hb1 _ (hr.1.top fun c=>hni (hr.1.emp.2 c)).1⟩
 have v2:q.2≠noI->0<=q.2.2/\q.2.2<es.length/\FL es (Ae pa) (Ae oi) q.2.2:=fun hni=>by
  obtain⟨_,g1,g2⟩:=hr.2.rng hF hb2 hni;exact⟨g1,g2,Ji hb2 _ (hr.2.top fun c=>hni (hr.2.emp.2 c)).1⟩
 rw[hlen] at hcl1 ⊢;refine Ao<|Aa<|Ai ?_;refine Fv 32100010001000 14 ?_;refine Yz [3,3,0] ?_;refine Yo J (EC J J Tryz.underlying66) ?_;refine Yz [1] ?_;refine Yo J (Bz (ad':=ad.add (st'.length*4)) J J J Tryz.underlying66 Eg (by omega) (by omega) (by rw[show(((st'.length+1:Nat):Int)-1).toNat=st'.length by omega])) ?_;refine Bp J J J J (A4 (vs:=[_,_,_,_]) J J M5 Eg J (JE (i:=1) J)) ?_;refine A8 J J J J (DL J Gf J) fun g8=>?_;refine BF.sto (V:=[AC g8 136 #[Iv 0,Iv 0,Iv 0,Iv 0],BK c (.slice (some ad) (st'.length+1) cap),EY (.slice (some ad) (st'.length+1) cap) (st'++[q]),Cf c.gr ref,Cf c.gs side]) J J J J J (B3 (cs':=#[_,_,_,_]) J J J Eg J (A1f J) J) PN ?_;refine AF J ?_;simp only[zq,zr];refine Aa<|Ai ?_;refine Fv 101001000010100100000011000110 33 ?_;refine Yz [1] ?_;refine Bp J J J J (A4 (vs:=[_,_]) J J Dp CE J (AW J)) ?_;refine Bp J J J J (A4 (vs:=[_,_]) J J Dp CE J (Da hD (fun _ h=>h.hG) J)) ?_;refine Yo J (FZ J J J (by kernel_rfl)) ?_;refine Ym ?_;refine BF.split 121 J (fun k11_4=>?_) (fun k11_4=>?_)
 .have n1:q.1≠noI:=by rw[NB] at k11_4;simpa using k11_4
  obtain⟨x0,x1,x2⟩:=v1 n1;refine Yz [1] ?_;refine Bp J J J J (A4 (vs:=[_,_]) J J Dp CE J (AW J)) ?_;refine Bp J J J J (A4 (vs:=[_,_]) J J Dp CE J (Da hD (fun _ h=>h.hG) J)) ?_;refine Yo J (EZ J J J (by kernel_rfl)) ?_;refine Ym ?_;refine BF.split 126 J (fun k11_9=>?_) (fun k11_9=>?_)
  .refine Yz [23] ?_;refine AF J ?_;simp only[zq,zr];refine Aa ?_;refine Bn J ?_;refine Fv 3010001000 10 ?_;refine Yz [3,3,0] ?_;refine Yj ⟨c.gr,e.toNat,none⟩ ?_;refine AO J J J J (AP (cs':=(AA (ref.set e.toNat q.1.2)).toArray) J J J Bw J (by simp;omega) BP) PN ?_;refine AF J ?_;simp only[zq,zr];refine AZ (E':=[]) trivial (BC (BC (BC (BC .nil)))) ?_;refine BQ (.inr J) J ?_;have hbL:q.1.2= -1\/(0<=q.1.2/\q.1.2<es.length/\FL es (Ae pa) (Ae oi) q.1.2):=by
    by_cases h:q.1=noI
    .exact .inl (by rw[h])
    exact .inr (v1 h)
   have hbR:q.2.2= -1\/(0<=q.2.2/\q.2.2<es.length/\FL es (Ae pa) (Ae oi) q.2.2):=by
    by_cases h:q.2=noI
    .exact .inl (by rw[h])
    exact .inr (v2 h)
   first
   | (obtain⟨g1,g2⟩:=Ew hF hnb h0 hS hbk hA hUe hbL
      exact⟨J,_,st'++[q],ref.set e.toNat q.1.2,side,J,by simpa using hm,hs,hP,by rw[CU h0 (by omega)];exact g1,by rw[CU h0 (by omega)];exact g2⟩)
   | (obtain⟨g1,g2⟩:=Ew hF hnb h0 hS hbk hA hUe hbR
      exact⟨J,_,st'++[q],ref.set e.toNat q.2.2,side,J,by simpa using hm,hs,hP,by rw[CU h0 (by omega)];exact g1,by rw[CU h0 (by omega)];exact g2⟩)
  have n2:q.2≠noI:=by rw[NB] at k11_9;simpa using k11_9
  obtain⟨y0,y1,y2⟩:=v2 n2;obtain⟨ad1,e1,hc1⟩:=hcl q.1.2 x0 (by omega);cases e1;obtain⟨ad2,e2,hc2⟩:=hcl q.2.2 y0 (by omega);cases e2;refine Yz [4] ?_;refine Yg ?_ (hh:=by exact(AK (by unfold IR;rw[hvl];rfl)));refine Yz [2,0] ?_;refine Yj (adl.add q.1.2.toNat) ?_;refine Yh (hc1 _) ?_;refine Yz [4] ?_;refine Yg ?_ (hh:=by exact(AK (by unfold IR;rw[hvl];rfl)));refine Yz [2,0] ?_;refine Yj (adl.add q.2.2.toNat) ?_;refine Yh (hc2 _) ?_;refine Yz [3] ?_;refine AF J ?_;simp only[zq,zr];refine Aa ?_;refine Zd ?_ ?_<;>intro c11
  .refine Fv 3010001000 10 ?_;refine Yz [3,3,0] ?_;refine Yj ⟨c.gr,e.toNat,none⟩ ?_;refine AO J J J J (AP (cs':=(AA (ref.set e.toNat q.1.2)).toArray) J J J Bw J (by simp;omega) BP) PN ?_;refine AF J ?_;simp only[zq,zr];refine AZ (E':=[]) trivial (BC (BC (BC (BC .nil)))) ?_;refine BQ (.inr J) J ?_;have hbL:q.1.2= -1\/(0<=q.1.2/\q.1.2<es.length/\FL es (Ae pa) (Ae oi) q.1.2):=by
    by_cases h:q.1=noI
    .exact .inl (by rw[h])
    exact .inr (v1 h)
   have hbR:q.2.2= -1\/(0<=q.2.2/\q.2.2<es.length/\FL es (Ae pa) (Ae oi) q.2.2):=by
    by_cases h:q.2=noI
    .exact .inl (by rw[h])
    exact .inr (v2 h)
   first
   | (obtain⟨g1,g2⟩:=Ew hF hnb h0 hS hbk hA hUe hbL
      exact⟨J,_,st'++[q],ref.set e.toNat q.1.2,side,J,by simpa using hm,hs,hP,by rw[CU h0 (by omega)];exact g1,by rw[CU h0 (by omega)];exact g2⟩)
   | (obtain⟨g1,g2⟩:=Ew hF hnb h0 hS hbk hA hUe hbR
      exact⟨J,_,st'++[q],ref.set e.toNat q.2.2,side,J,by simpa using hm,hs,hP,by rw[CU h0 (by omega)];exact g1,by rw[CU h0 (by omega)];exact g2⟩)
  refine Fv 3010001000 10 ?_;refine Yz [3,3,0] ?_;refine Yj ⟨c.gr,e.toNat,none⟩ ?_;refine AO J J J J (AP (cs':=(AA (ref.set e.toNat q.2.2)).toArray) J J J Bw J (by simp;omega) BP) PN ?_;refine AF J ?_;simp only[zq,zr];refine AZ (E':=[]) trivial (BC (BC (BC (BC .nil)))) ?_;refine BQ (.inr J) J ?_;have hbL:q.1.2= -1\/(0<=q.1.2/\q.1.2<es.length/\FL es (Ae pa) (Ae oi) q.1.2):=by
   by_cases h:q.1=noI
   .exact .inl (by rw[h])
   exact .inr (v1 h)
  have hbR:q.2.2= -1\/(0<=q.2.2/\q.2.2<es.length/\FL es (Ae pa) (Ae oi) q.2.2):=by
   by_cases h:q.2=noI
   .exact .inl (by rw[h])
   exact .inr (v2 h)
  first
  | (obtain⟨g1,g2⟩:=Ew hF hnb h0 hS hbk hA hUe hbL
     exact⟨J,_,st'++[q],ref.set e.toNat q.1.2,side,J,by simpa using hm,hs,hP,by rw[CU h0 (by omega)];exact g1,by rw[CU h0 (by omega)];exact g2⟩)
  | (obtain⟨g1,g2⟩:=Ew hF hnb h0 hS hbk hA hUe hbR
     exact⟨J,_,st'++[q],ref.set e.toNat q.2.2,side,J,by simpa using hm,hs,hP,by rw[CU h0 (by omega)];exact g1,by rw[CU h0 (by omega)];exact g2⟩)
 refine Yz [28] ?_;refine AF J ?_;simp only[zq,zr];refine Aa ?_;refine BN J ?_;refine Fv 3010001000 10 ?_;refine Yz [3,3,0] ?_;refine Yj ⟨c.gr,e.toNat,none⟩ ?_;refine AO J J J J (AP (cs':=(AA (ref.set e.toNat q.2.2)).toArray) J J J Bw J (by simp;omega) BP) PN ?_;refine AF J ?_;simp only[zq,zr];refine AZ (E':=[]) trivial (BC (BC (BC (BC .nil)))) ?_;refine BQ (.inr J) J ?_;have hbL:q.1.2= -1\/(0<=q.1.2/\q.1.2<es.length/\FL es (Ae pa) (Ae oi) q.1.2):=by
  by_cases h:q.1=noI
  .exact .inl (by rw[h])
  exact .inr (v1 h)
 have hbR:q.2.2= -1\/(0<=q.2.2/\q.2.2<es.length/\FL es (Ae pa) (Ae oi) q.2.2):=by
  by_cases h:q.2=noI
  .exact .inl (by rw[h])
  exact .inr (v2 h)
 first
 | (obtain⟨g1,g2⟩:=Ew hF hnb h0 hS hbk hA hUe hbL
    exact⟨J,_,st'++[q],ref.set e.toNat q.1.2,side,J,by simpa using hm,hs,hP,by rw[CU h0 (by omega)];exact g1,by rw[CU h0 (by omega)];exact g2⟩)
 | (obtain⟨g1,g2⟩:=Ew hF hnb h0 hS hbk hA hUe hbR
    exact⟨J,_,st'++[q],ref.set e.toNat q.2.2,side,J,by simpa using hm,hs,hP,by rw[CU h0 (by omega)];exact g1,by rw[CU h0 (by omega)];exact g2⟩)
end
structure CsJ where
 vp:Value
 st:List IP
 ref:List Int
 l:Int×Int
 r:Int×Int
abbrev DtB(c:TC)(es:List Pr)(pa he oi lo:List Int)(out:List (List Int))(bot low:List Int)(w:World):Prop:=
 DtV c es pa he oi lo out w/\w.heap[c.gb]? =some (.cells (AA bot).toArray 3 (0,0))/\w.heap[c.gl]? =some (.cells (AA low).toArray 3 (0,0))
theorem Rs{a b:Int×Int}:decide ((a,b)=(noI,noI))=decide (a=noI/\b=noI):=by
 simp only[Prod.mk.injEq]
section
variable{w:World}{c:TC}{vp:Value}{es:List Pr}{pa he oi lo bot low:List Int}{out:List (List Int)}
theorem Lh{h e up b0 e0 y0 v:Int}{st:List IP}{ref:List Int}{S Pt:PL}{p0:List Int×List Int}{D:List Int}{U:Int->Prop}
 (hO:AR w (AY [BK c vp,EY vp st,Cf c.gr ref]) w [BK c vp,EY vp st,Cf c.gr ref])(hD:Dk w (AY [BK c vp,EY vp st,Cf c.gr ref]) (DtB c es pa he oi lo out bot low))
 (hn:LnT c es pa he oi lo out)(hm:ref.length=c.m)(hbl:bot.length=c.m)(hll:low.length=c.m)(hst:st.length<=8388608)(hF:CD es (Ae pa) (Ae he) (Ae oi) c.N)(hL:B9 es (Ae pa) (Ae he) (Ae oi) (Ae lo) c.N (DT out))
 (hJ:Jn es (Ae pa) (Ae he) (Ae oi) c.N v D h b0 e0)(h1:Gx es (Ae pa) (Ae he) (Ae oi) c.N D (p0::Pt))(hy:ID es (Ae pa) (Ae he) (Ae oi) D y0)(hly:fI low up=y0 / 2)(hU:∀b,Xs es (Ae pa) (Ae he) (Ae oi) (D++[h]) b->U (b / 2))
 (hC:C1 es (Ae pa) (Ae he) (Ae oi) (Ae lo) c.N h b0 es.length S p0 Pt U (fI ref) st noI)(hbe:fI bot e=(S.length+Pt.length+1:Nat))(hle:Ae lo e=Ae he (AD es e0))(hlu:Ae lo up=Ae he (AD es b0))(e0':0<=e)(e1':e<es.length)(u0':0<=up)(u1':up<es.length):
  Calls A1c 98 #[.pointer (some ⟨c.g,0,none⟩),Iv e,Iv up] w (Ret w (AY [BK c vp,EY vp st,Cf c.gr ref]) fun r M=>∃ok vp' st' ref',r= .bool ok/\M=[BK c vp',EY vp' st',Cf c.gr ref']/\ref'.length=c.m/\
   (ok=true->JR es (Ae pa) (Ae he) (Ae oi) (Ae lo) c.N (D++[h]) es.length S U (fI ref') st')/\(ok=false->∀s,¬Nk es (Ae pa) (Ae he) (Ae oi) c.N s (D++[h]))):=by
 have hmb:=hn.mb;have hnm:=hn.m;have hnlo:=hn.lo;obtain⟨Al,cl,hvl,hlc,hlm,hlf,hcl⟩:=EW hD (fun _ h=>h.1.hl);obtain⟨adl,rfl,hclu⟩:=hcl up u0' (by omega);have hbc:∀L,Ll w (AY [BK c vp,EY vp st,Cf c.gr ref]) L ⟨c.gb,e.toNat,none⟩ (Iv (fI bot e)):=fun L=>YQ hD fun w h=>EI h.2.1 (Br (Gm e0' (by omega)));have hlc2:∀L,Ll w (AY [BK c vp,EY vp st,Cf c.gr ref]) L ⟨c.gl,up.toNat,none⟩ (Iv (fI low up)):=fun L=>YQ hD fun w h=>EI h.2.2 (Br (Gm u0' (by omega)));refine BO (args:=[_,_,_]) Tryz.func98 J Tryz.ntmps98 J hO<|Zs ?_;refine Za<|Zx ?_;refine DC.scope<|Zs ?_;refine Zu (A4 (vs:=[_,_]) J J Dp CE J (Da hD (fun _ h=>h.1.hG) J)) ?_;refine Zu (A4 (vs:=[_,_]) J J Dp CE J (Da hD (fun _ h=>h.1.hG) J)) ?_;refine ZS #[_,_,_,_] ZT ?_;refine ZA Gf fun g7=>?_;refine Zq #[_,_,_,_]<|Zx ?_;refine DC.cut (ι:=CsJ) (fun j=>C2 es (Ae pa) (Ae he) (Ae oi) (Ae lo) c.N D h b0 e0 es.length S p0 U (fI j.ref) j.st noI j.r/\j.ref.length=c.m/\j.st.length<=8388608) (fun j=>[(0,.pointer (some ⟨c.g,0,none⟩)),(1,Iv e),(2,Iv up),(7,Pv g7)])
  (fun j=>[AC g7 136 #[Iv (-1),Iv (-1),Iv j.r.1,Iv j.r.2],BK c j.vp,EY j.vp j.st,Cf c.gr j.ref]) ?firstb0 ?restb0
 case firstb0=>
  refine As ?_;refine AS (ι:=CsJ) (fun j=>C1 es (Ae pa) (Ae he) (Ae oi) (Ae lo) c.N h b0 es.length S p0 Pt U (fI j.ref) j.st j.r/\j.ref.length=c.m/\j.st.length<=8388608) (fun j=>[(0,.pointer (some ⟨c.g,0,none⟩)),(1,Iv e),(2,Iv up),(7,Pv g7)])
   (fun j=>[AC g7 136 #[Iv (-1),Iv (-1),Iv j.r.1,Iv j.r.2],BK c j.vp,EY j.vp j.st,Cf c.gr j.ref]) (fun j=>j.st.length) ⟨vp,st,ref,noI,noI⟩ ⟨hC,hm,hst⟩ ⟨J,J,J,J,trivial⟩ (Ay _) ?_;rintro⟨vp,st,ref,_,pr⟩ ⟨hC,hm,hst⟩;dsimp only at hC hm hst ⊢;refine DC.quads (i:=2) J ?_;rintro A cap rfl hcl1 hcm1 hA1;refine Ai<|Ai ?_;refine Fv 100100001000 13 ?_;refine Yz [3,0] ?_;refine Yo J (EC J J Tryz.underlying66) ?_;refine Yz [3,1] ?_;refine Yj ⟨c.gb,e.toNat,none⟩ ?_;refine Yh (hbc _) ?_;refine Yz [1] ?_;refine AF J ?_;simp only[zq,zr];refine Aa ?_;refine Zd ?_ ?_<;>intro c2
  .have hgt:S.length+Pt.length+1<st.length:=by rw[hbe] at c2;simp at c2;omega
   have hprg:=hC.rng hF;obtain⟨st',q,hstx,t1,t2⟩:=hC.step hF hL hJ h1 hy hly.symm hU hgt;subst hstx;obtain⟨ad,rfl⟩:=hA1 (by simp);have hlen:(st'++[q]).length=st'.length+1:=by simp
   rw[hlen] at hcl1 hst ⊢;refine Ao<|Aa<|As<|Zs<|Zm ?_;let ca:=AC g7 136 #[Iv (-1),Iv (-1),Iv pr.1,Iv pr.2];refine AU J J (D7 Vr J J J (Lc:=[BK c (.slice (some ad) (st'.length+1) cap),EY (.slice (some ad) (st'.length+1) cap) (st'++[q])]) (F:=[ca,Cf c.gr ref]) (PK (BC (BC (Bg (Bg .nil))))) (fun k hk=>hk) (fun w hw=>Gh (hw.sub (A1J [BK c _,EY _ _] _)).self)) ?_;rintro _ _ ⟨_,⟨vp',rfl,rfl⟩,rfl⟩;simp only[zs];refine ZA Gf fun g8=>?_;refine Zq #[_,_,_,_]<|Zx ?_;refine DC.cut (ι:=IP) (fun j=>(j.1≠noI->∀s,¬Nk es (Ae pa) (Ae he) (Ae oi) c.N s (D++[h]))/\(j.1=noI->(0<=j.2.1/\j.2.1<es.length)/\(Ae he (AD es b0)<Ae lo j.2.1->C1 es (Ae pa) (Ae he) (Ae oi) (Ae lo) c.N h b0 es.length S p0 Pt U (EQ (fI ref) pr j.2) st' (undr pr j.2))/\(¬Ae he (AD es b0)<Ae lo j.2.1->C1 es (Ae pa) (Ae he) (Ae oi) (Ae lo) c.N h b0 es.length S p0 Pt U (HO (fI ref) j.2.1 (fI low up)) st' pr)))
    (fun j=>[(0,.pointer (some ⟨c.g,0,none⟩)),(1,Iv e),(2,Iv up),(7,Pv g7),(8,Pv g8)])
    (fun j=>[AC g8 136 #[Iv j.1.1,Iv j.1.2,Iv j.2.1,Iv j.2.2],BK c vp',EY vp' st',ca,Cf c.gr ref]) ?first5 ?rest5
   case first5=>
    refine Zs<|Zz [1] ?_;refine CR [_,_] ?_;refine Zu (A4 (vs:=[_,_]) J J Dp CE J (Da hD (fun _ h=>h.1.hG) J)) ?_;refine Zo (FZ J J J (by kernel_rfl))<|Zx ?_;refine Zd ?_ ?_<;>intro c4
    .refine Ak<|Zz [1] ?_;refine CR [_,_] ?_;refine Zz [1] ?_;refine CR [_,_] ?_;refine Zz [1] ?_;refine Zy (B3 (cs':=#[Iv q.2.1,Iv q.2.2,Iv q.2.1,Iv q.2.2]) J J J CE J (by show 0+2<=4;decide) J) ?_;refine Zz [1] ?_;refine Zy (B3 (cs':=#[Iv q.2.1,Iv q.2.2,Iv q.1.1,Iv q.1.2]) J J J CE J (by show 2+2<=4;decide) J)<|Az ?_
     first
     | (have n1:q.1≠noI:=(by rw[NB] at c4;simpa using c4)
        exact Be (q.2,q.1) ⟨fun n2=>t1 n1 n2,fun n2=>by
         obtain⟨g1,g2,g3⟩:=t2 q.1 (.inr ⟨n1,n2,rfl⟩);exact⟨g1.1,g2,by rw[hly];rw[hly] at g3;exact g3⟩⟩ ⟨J,J,J,J,J,trivial⟩ (Ay _))
     | (have n1:q.1=noI:=(by rw[NB] at c4;simpa using c4)
        exact Be q ⟨fun n2=>absurd n1 n2,fun n2=>by
         obtain⟨g1,g2,g3⟩:=t2 q.2 (.inl ⟨n1,rfl⟩);exact⟨g1.1,g2,by rw[hly];rw[hly] at g3;exact g3⟩⟩ ⟨J,J,J,J,J,trivial⟩ (Ay _))
    refine Ao ?_
    first
    | (have n1:q.1≠noI:=(by rw[NB] at c4;simpa using c4)
       exact Be (q.2,q.1) ⟨fun n2=>t1 n1 n2,fun n2=>by
        obtain⟨g1,g2,g3⟩:=t2 q.1 (.inr ⟨n1,n2,rfl⟩);exact⟨g1.1,g2,by rw[hly];rw[hly] at g3;exact g3⟩⟩ ⟨J,J,J,J,J,trivial⟩ (Ay _))
    | (have n1:q.1=noI:=(by rw[NB] at c4;simpa using c4)
       exact Be q ⟨fun n2=>absurd n1 n2,fun n2=>by
        obtain⟨g1,g2,g3⟩:=t2 q.2 (.inl ⟨n1,rfl⟩);exact⟨g1.1,g2,by rw[hly];rw[hly] at g3;exact g3⟩⟩ ⟨J,J,J,J,J,trivial⟩ (Ay _))
   rintro⟨l,r⟩ ⟨hl,hr⟩;dsimp only at hl hr ⊢;refine Ai<|Zs<|Zz [1] ?_;refine CR [_,_] ?_;refine Zu (A4 (vs:=[_,_]) J J Dp CE J (Da hD (fun _ h=>h.1.hG) J)) ?_;refine Zo (FZ J J J (by kernel_rfl))<|Zx ?_;refine Zd ?_ ?_<;>intro c6
   .refine Zs<|Za<|Zx<|At<|Ad<|Am<|Ad<|Am<|Ad<|Ci ?_;refine AZ (E':=[(6,_)]) ⟨J,trivial⟩ (BC (BC (CY .nil))) ?_;refine Zh ?_;have n1:l≠noI:=by rw[NB] at c6;simpa using c6
    exact⟨false,vp',st',ref,J,J,hm,fun h=>absurd h (by simp),fun _=>hl n1⟩
   have n1:l=noI:=by rw[NB] at c6;simpa using c6
   obtain⟨⟨r0,r1⟩,y1,y2⟩:=hr n1;obtain⟨adr,er,hcr⟩:=hcl r.1 r0 (by omega);cases er;refine Ao<|Aa<|Ai ?_;refine Fv 100100001010010000 19 ?_;refine Yz [4] ?_;refine Yg ?_ (hh:=by exact(AK (by unfold IR;rw[hvl];rfl)));refine Yz [2,0] ?_;refine Yj (adl.add r.1.toNat) ?_;refine Yh (hcr _) ?_;refine Yz [4] ?_;refine Yg ?_ (hh:=by exact(AK (by unfold IR;rw[hvl];rfl)));refine Ym ?_;refine Yj (adl.add up.toNat) ?_;refine Yh (hclu _) ?_;refine Yz [1] ?_;refine AF J ?_;simp only[zq,zr];refine Aa ?_;refine Zd ?_ ?_<;>intro c8
   .refine Ak<|Zz [2] ?_;refine CR [_,_] ?_;refine Zz [1] ?_;refine CR [_,_] ?_;refine AU J J (D7 Y5 J J J (Lc:=[BK c vp',Cf c.gr ref]) (F:=[AC g8 136 #[Iv l.1,Iv l.2,Iv r.1,Iv r.2],EY vp' st',ca]) (PK (BC (Et (Bg (Bg (Bg .nil)))))) (fun _ h=>h)
     (fun w hw=>HR (i:=pr) (j:=r) (hw.sub (A1J [BK c vp',Cf c.gr ref] _)).self ((hD.sub hw (A1J [BK c vp',Cf c.gr ref] _)).imp fun _ h=>h.1.hG) hm (by omega) (fun hni=>by have:=(hprg hni).1;omega))) ?_;rintro _ _ ⟨_,⟨ref',rfl,rfl,hm',hR⟩,rfl⟩;simp only[zs];refine Zz [1] ?_;refine Zy (B3 (cs':=#[Iv (-1),Iv (-1),Iv (undr pr r).1,Iv (undr pr r).2]) J J J CE J (by show 2+2<=4;decide) J)<|Az<|An ?_
    first
    | (have hgt2:Ae he (AD es b0)<Ae lo r.1:=(by rw[<-hlu];simpa using c8)
       exact AB ⟨vp',st',ref',noI,undr pr r⟩ (by simp) ⟨by dsimp only;rw[hR];exact y1 hgt2,hm',by dsimp only;omega⟩ ⟨J,J,J,J,trivial⟩ (LQ (Bg (CY (Bg .nil)))))
    | (have hle2:¬Ae he (AD es b0)<Ae lo r.1:=(by rw[<-hlu];simp at c8;omega)
       exact AB ⟨vp',st',ref.set r.1.toNat (fI low up),noI,pr⟩ (by simp) ⟨by dsimp only;rw[CU r0 (by omega)];exact y2 hle2,by simpa using hm,by dsimp only;omega⟩ ⟨J,J,J,J,trivial⟩ (Et (BC (BC (BC .nil)))))
   refine Fv 3010010001001000 16 ?_;refine Yz [3,2,3,1] ?_;refine Yj ⟨c.gl,up.toNat,none⟩ ?_;refine Yh (hlc2 _) ?_;refine Yj ⟨c.gr,r.1.toNat,none⟩ ?_;refine AO J J J J (AP (cs':=(AA (ref.set r.1.toNat (fI low up))).toArray) J J J Bw J (by simp;omega) BP) PN ?_;refine AF J ?_;simp only[zq,zr];refine An ?_
   first
   | (have hgt2:Ae he (AD es b0)<Ae lo r.1:=(by rw[<-hlu];simpa using c8)
      exact AB ⟨vp',st',ref',noI,undr pr r⟩ (by simp) ⟨by dsimp only;rw[hR];exact y1 hgt2,hm',by dsimp only;omega⟩ ⟨J,J,J,J,trivial⟩ (LQ (Bg (CY (Bg .nil)))))
   | (have hle2:¬Ae he (AD es b0)<Ae lo r.1:=(by rw[<-hlu];simp at c8;omega)
      exact AB ⟨vp',st',ref.set r.1.toNat (fI low up),noI,pr⟩ (by simp) ⟨by dsimp only;rw[CU r0 (by omega)];exact y2 hle2,by simpa using hm,by dsimp only;omega⟩ ⟨J,J,J,J,trivial⟩ (Et (BC (BC (BC .nil)))))
  refine AN<|Ag<|Ag<|Aq ?_;refine Be ⟨_,st,ref,noI,pr⟩ ⟨hC.done h1 ?_,hm,hst⟩ ⟨J,J,J,J,trivial⟩ (Ay _);rw[hbe] at c2;simp at c2;dsimp only;omega
 rintro⟨vp,st,ref,_,pr⟩ ⟨hC,hm,hst⟩;dsimp only at hC hm hst ⊢;refine Ai<|DC.label<|Aa ?_;refine DC.cut (ι:=CsJ) (fun j=>JR es (Ae pa) (Ae he) (Ae oi) (Ae lo) c.N (D++[h]) es.length S U (fI j.ref) (if j.l=noI/\j.r=noI then j.st else j.st++[(j.l,j.r)])/\j.ref.length=c.m/\j.st.length<=8388608) (fun j=>[(0,.pointer (some ⟨c.g,0,none⟩)),(1,Iv e),(2,Iv up),(7,Pv g7)])
  (fun j=>[AC g7 136 #[Iv j.l.1,Iv j.l.2,Iv j.r.1,Iv j.r.2],BK c j.vp,EY j.vp j.st,Cf c.gr j.ref]) ?firstb2 ?restb2
 case firstb2=>
  refine As ?_;refine AS (ι:=CsJ) (fun j=>C2 es (Ae pa) (Ae he) (Ae oi) (Ae lo) c.N D h b0 e0 es.length S p0 U (fI j.ref) j.st j.l j.r/\j.ref.length=c.m/\j.st.length<=8388608) (fun j=>[(0,.pointer (some ⟨c.g,0,none⟩)),(1,Iv e),(2,Iv up),(7,Pv g7)])
   (fun j=>[AC g7 136 #[Iv j.l.1,Iv j.l.2,Iv j.r.1,Iv j.r.2],BK c j.vp,EY j.vp j.st,Cf c.gr j.ref]) (fun j=>j.st.length) ⟨vp,st,ref,noI,pr⟩ ⟨hC,hm,hst⟩ ⟨J,J,J,J,trivial⟩ (Ay _) ?_;rintro⟨vp,st,ref,pl,pr⟩ ⟨hC,hm,hst⟩;dsimp only at hC hm hst ⊢;refine DC.quads (i:=2) J ?_;rintro A cap rfl hcl1 hcm1 hA1;obtain⟨hprl,hprr⟩:=hC.rng hF;obtain⟨st',q,hstx,t1,t2,t3,t4⟩:=hC.step hF hL hJ hU;subst hstx;obtain⟨ad,rfl⟩:=hA1 (by simp);have hlen:(st'++[q]).length=st'.length+1:=by simp
  rw[hlen] at hcl1 hst ⊢;refine Ai<|Zs<|Zz [3,2]<|Zx ?_;refine Zd ?_ ?_<;>intro c11
  .refine Ao<|Aa<|As<|Ai ?_;refine Fv 32100010001000 14 ?_;refine Yz [3,3,0] ?_;refine Yo J (EC J J Tryz.underlying66) ?_;refine Yz [1] ?_;refine Yo J (Bz (ad':=ad.add (st'.length*4)) J J J Tryz.underlying66 Eg (by omega) (by omega) (by rw[show(((st'.length+1:Nat):Int)-1).toNat=st'.length by omega])) ?_;refine Bp J J J J (A4 (vs:=[_,_,_,_]) J J M5 Eg J (JE (i:=2) J)) ?_;refine A8 J J J J (DL J Gf J) fun g9=>?_;let cb:=AC g7 136 #[Iv pl.1,Iv pl.2,Iv pr.1,Iv pr.2];refine BF.sto (V:=[AC g9 136 #[Iv 0,Iv 0,Iv 0,Iv 0],cb,BK c (.slice (some ad) (st'.length+1) cap),EY (.slice (some ad) (st'.length+1) cap) (st'++[q]),Cf c.gr ref]) J J J J J (B3 (cs':=#[_,_,_,_]) J J J Eg J (A1f J) J) PN ?_;refine AF J ?_;simp only[zq,zr];refine Aa ?_;refine DC.cut (ι:=Unit) (fun _=>Sw (Ae lo) (Ae he (AD es e0)) q.1\/Sw (Ae lo) (Ae he (AD es e0)) q.2) (fun _=>[(0,.pointer (some ⟨c.g,0,none⟩)),(1,Iv e),(2,Iv up),(7,Pv g7),(9,Pv g9)])
    (fun _=>[AC g9 136 (GJ q).toArray,cb,BK c (.slice (some ad) (st'.length+1) cap),EY (.slice (some ad) (st'.length+1) cap) (st'++[q]),Cf c.gr ref]) ?first13 ?rest13
   case first13=>
    refine Zs<|Zz [2] ?_;refine CR [_,_] ?_;refine Zm ?_;refine AL J J (AH Vp J J J (fun w hw=>El (i:=q.1) (hw.holds (BK c _) (by simp only[A1H];exact .inr (.inr (.inl J)))) (hD.own hw).1.hG (hD.own hw).1.hl e0' (by omega) (fun hni=>by have:=(t1 q.1 (.inl J) hni).2;omega))) ?_;rintro _ ⟨bL,rfl,hbL⟩;refine Zz [2] ?_;refine AM 107 J (fun k13_6=>?_) (fun k13_6=>?_)
    .refine Zz [2] ?_;refine CR [_,_] ?_;refine Zm ?_;refine AL J J (AH Vp J J J (fun w hw=>El (i:=q.2) (hw.holds (BK c _) (by simp only[A1H];exact .inr (.inr (.inl J)))) (hD.own hw).1.hG (hD.own hw).1.hl e0' (by omega) (fun hni=>by have:=(t1 q.2 (.inr J) hni).2;omega))) ?_;rintro _ ⟨bR,rfl,hbR⟩;refine Zz [2]<|Zx ?_;refine Zd ?_ ?_<;>intro c13
     .refine AN<|Ag<|Fb (by decide)<|Ag<|Aq ?_;have nL:¬Sw (Ae lo) (Ae he (AD es e0)) q.1:=fun h=>by rw[<-hle] at h;have:=hbL.2 h;simp[this] at k13_6
      have nR:¬Sw (Ae lo) (Ae he (AD es e0)) q.2:=fun h=>by rw[<-hle] at h;have:=hbR.2 h;simp[this] at c13
      exact Be ⟨_,st'++[q],ref,pl,pr⟩ ⟨t2 nL nR,hm,by dsimp only;omega⟩ ⟨J,J,J,J,trivial⟩ (BC (BC (BC (BC .nil))))
     refine Ao ?_;refine Be () ?_ ⟨J,J,J,J,J,trivial⟩ (Ay _);rw[<-hle]
     first
     | exact .inr (hbR.1 (by simpa using c13))
     | exact .inl (hbL.1 (by simpa using k13_6))
    refine Zz [7]<|Zx ?_;refine BN J<|Ao ?_;refine Be () ?_ ⟨J,J,J,J,J,trivial⟩ (Ay _);rw[<-hle]
    first
    | exact .inr (hbR.1 (by simpa using c13))
    | exact .inl (hbL.1 (by simpa using k13_6))
   intro _ hor;refine Zs<|Zm ?_;refine AU J J (D7 Vr J J J (Lc:=[BK c (.slice (some ad) (st'.length+1) cap),EY (.slice (some ad) (st'.length+1) cap) (st'++[q])]) (F:=[AC g9 136 (GJ q).toArray,cb,Cf c.gr ref]) (PK (CY (CY (Bg (Bg (Bg .nil)))))) (fun k hk=>hk) (fun w hw=>Gh (hw.sub (A1J [BK c _,EY _ _] _)).self)) ?_;rintro _ _ ⟨_,⟨vp',rfl,rfl⟩,rfl⟩;simp only[zs];refine Zx ?_;refine DC.cut (ι:=IP) (fun j=>(∀i,i=j.1\/i=j.2->i≠noI->(0<=i.1/\i.1<es.length)/\0<=i.2/\i.2<es.length)/\(Sw (Ae lo) (Ae he (AD es e0)) j.2->∀s,¬Nk es (Ae pa) (Ae he) (Ae oi) c.N s (D++[h]))/\(¬Sw (Ae lo) (Ae he (AD es e0)) j.2->C2 es (Ae pa) (Ae he) (Ae oi) (Ae lo) c.N D h b0 e0 es.length S p0 U (EQ (EQ (fI ref) pr j.2) pl j.1) st' (undr pl j.1) (undr pr j.2)))
    (fun _=>[(0,.pointer (some ⟨c.g,0,none⟩)),(1,Iv e),(2,Iv up),(7,Pv g7),(9,Pv g9)])
    (fun j=>[BK c vp',EY vp' st',AC g9 136 #[Iv j.1.1,Iv j.1.2,Iv j.2.1,Iv j.2.2],cb,Cf c.gr ref]) ?first16 ?rest16
   case first16=>
    refine Zs<|Zz [2] ?_;refine CR [_,_] ?_;refine Zm ?_;refine AL J J (AH Vp J J J (fun w hw=>El (i:=q.2) (hw.holds (BK c _) (A1m ..)) (hD.own hw).1.hG (hD.own hw).1.hl e0' (by omega) (fun hni=>by have:=(t1 q.2 (.inr J) hni).2;omega))) ?_;rintro _ ⟨bR,rfl,hbR⟩;rw[hle] at hbR;refine Zx ?_;refine Zd ?_ ?_<;>intro c15
    .refine Ak<|Zz [1] ?_;refine CR [_,_] ?_;refine Zz [1] ?_;refine CR [_,_] ?_;refine Zz [1] ?_;refine Zy (B3 (cs':=#[Iv q.2.1,Iv q.2.2,Iv q.2.1,Iv q.2.2]) J J J CE J (by show 0+2<=4;decide) J) ?_;refine Zz [1] ?_;refine Zy (B3 (cs':=#[Iv q.2.1,Iv q.2.2,Iv q.1.1,Iv q.1.2]) J J J CE J (by show 2+2<=4;decide) J)<|Az ?_
     first
     | (have h2:=hbR.1 c15
        exact Be (q.2,q.1) ⟨fun i hi=>t1 i hi.symm,fun h1=>t3 h1 h2,fun h1=>t4 q.2 q.1 (.inr ⟨J,J⟩) h2 h1⟩ ⟨J,J,J,J,J,trivial⟩ (Ay _))
     | (have h2:¬Sw (Ae lo) (Ae he (AD es e0)) q.2:=(fun h=>by rw[hbR.2 h] at c15;cases c15)
        exact Be q ⟨t1,fun h1=>absurd h1 h2,fun h1=>t4 q.1 q.2 (.inl ⟨J,J⟩) (hor.resolve_right h2) h1⟩ ⟨J,J,J,J,J,trivial⟩ (Ay _))
    refine Ao ?_
    first
    | (have h2:=hbR.1 c15
       exact Be (q.2,q.1) ⟨fun i hi=>t1 i hi.symm,fun h1=>t3 h1 h2,fun h1=>t4 q.2 q.1 (.inr ⟨J,J⟩) h2 h1⟩ ⟨J,J,J,J,J,trivial⟩ (Ay _))
    | (have h2:¬Sw (Ae lo) (Ae he (AD es e0)) q.2:=(fun h=>by rw[hbR.2 h] at c15;cases c15)
       exact Be q ⟨t1,fun h1=>absurd h1 h2,fun h1=>t4 q.1 q.2 (.inl ⟨J,J⟩) (hor.resolve_right h2) h1⟩ ⟨J,J,J,J,J,trivial⟩ (Ay _))
   rintro⟨l,r⟩ ⟨hr1,hr2,hr3⟩;dsimp only at hr1 hr2 hr3 ⊢;refine Ai<|Zs<|Zz [2] ?_;refine CR [_,_] ?_;refine Zm ?_;refine AL J J (AH Vp J J J (fun w hw=>El (i:=r) (hw.holds (BK c _) (A1m ..)) (hD.own hw).1.hG (hD.own hw).1.hl e0' (by omega) (fun hni=>by have:=(hr1 r (.inr J) hni).2;omega))) ?_;rintro _ ⟨bR2,rfl,hbR2⟩;rw[hle] at hbR2;refine Zx ?_;refine Zd ?_ ?_<;>intro c17
   .refine Zs<|Za<|Zx<|At<|Ad<|Am<|Ad<|Am<|Ad<|Ci ?_;refine AZ (E':=[(6,_)]) ⟨J,trivial⟩ (Bg (Bg (CY .nil))) ?_;refine Zh ?_;exact⟨false,vp',st',ref,J,J,hm,fun h=>absurd h (by simp),fun _=>hr2 (hbR2.1 c17)⟩
   have hC':=hr3 fun h=>by rw[hbR2.2 h] at c17;cases c17
   refine Ao<|Aa<|Zs<|Zz [2] ?_;refine CR [_,_] ?_;refine Zz [1] ?_;refine CR [_,_] ?_;let cd:=AC g9 136 #[Iv l.1,Iv l.2,Iv r.1,Iv r.2];refine AU J J (D7 Y5 J J J (Lc:=[BK c vp',Cf c.gr ref]) (F:=[EY vp' st',cd,cb]) (PK (Bg (Et (Bg (Bg (Bg .nil)))))) (fun _ h=>h)
    (fun w hw=>HR (i:=pr) (j:=r) (hw.sub (A1J [BK c vp',Cf c.gr ref] _)).self ((hD.sub hw (A1J [BK c vp',Cf c.gr ref] _)).imp fun _ h=>h.1.hG) hm (by omega) (fun hni=>by have:=(hprr hni).1;omega))) ?_;rintro _ _ ⟨_,⟨ref1,rfl,rfl,hm1,hR1⟩,rfl⟩;simp only[zs];refine Zz [1] ?_;refine Zy (B3 (cs':=#[Iv pl.1,Iv pl.2,Iv (undr pr r).1,Iv (undr pr r).2]) J J J CE J (by show 2+2<=4;decide) J)<|Zx<|Ak ?_;refine Zz [2] ?_;refine CR [_,_] ?_;refine Zz [1] ?_;refine CR [_,_] ?_;refine AU J J (D7 Y5 J J J (Lc:=[BK c vp',Cf c.gr ref1]) (F:=[EY vp' st',cd,AC g7 136 #[Iv pl.1,Iv pl.2,Iv (undr pr r).1,Iv (undr pr r).2]]) (PK (Ay _)) (fun _ h=>h)
    (fun w hw=>HR (i:=pl) (j:=l) (hw.sub (A1J [BK c vp',Cf c.gr ref1] _)).self ((hD.sub hw (A1J [BK c vp',Cf c.gr ref1] _)).imp fun _ h=>h.1.hG) hm1 (by omega) (fun hni=>by have:=(hprl hni).1;omega))) ?_;rintro _ _ ⟨_,⟨ref2,rfl,rfl,hm2,hR2⟩,rfl⟩;simp only[zs];refine Zz [1] ?_;refine Zy (B3 (cs':=#[Iv (undr pl l).1,Iv (undr pl l).2,Iv (undr pr r).1,Iv (undr pr r).2]) J J J CE J (by show 0+2<=4;decide) J)<|Az<|An ?_;exact AB ⟨vp',st',ref2,undr pl l,undr pr r⟩ (by simp) ⟨by dsimp only;rw[hR2,hR1];exact hC',hm2,by dsimp only;omega⟩ ⟨J,J,J,J,trivial⟩ (LQ (Bg (BC (Bg .nil))))
  exact absurd c11 (by simp)
 rintro⟨vp,st,ref,pl,pr⟩ ⟨hJR,hm,hst⟩;dsimp only at hJR hm hst ⊢;refine Ai<|Zs ?_;refine CR [_,_,_,_] ?_;refine Zu (A4 (vs:=[_,_]) J J Dp CE J (Da hD (fun _ h=>h.1.hG) J)) ?_;refine Zu (A4 (vs:=[_,_]) J J Dp CE J (Da hD (fun _ h=>h.1.hG) J)) ?_;refine ZS #[_,_,_,_] ZT ?_;refine Zo (Ty (a:=(pl,pr)) (b:=(noI,noI)) J J J (by kernel_rfl))<|Zx ?_;refine Zd ?_ ?_<;>intro c21
 .refine Fv 30032110000 11 ?_;refine Yz [4,0] ?_;refine Bp J J J J (A4 (vs:=[_,_,_,_]) J J M5 Eg J (AW J)) ?_;refine A8 J J J J (Eo (cs:=#[_,_,_,_]) J J Tryz.underlying66 Eg Gf J (by decide) (by decide) J J) fun g158=>?_;let cc:=AC g7 136 #[Iv pl.1,Iv pl.2,Iv pr.1,Iv pr.2];let ce:=AC g158 136 #[Iv pl.1,Iv pl.2,Iv pr.1,Iv pr.2];refine C5 (V:=[ce,cc,BK c vp,EY vp st,Cf c.gr ref]) J J J J J (SP.shape (Bt (F:=[ce,cc,BK c vp,Cf c.gr ref]) (vs:=quads st) (k:=1) (news:=GJ (pl,pr)) J J J Tryz.underlying66 Eg ZN Gf J (by decide) (by decide)
   (PK (Et (Bg (Bg (Bg (Bg .nil)))))) (.inl ⟨_,_,rfl,AW rfl⟩) rfl (by intro u hu;simp[GJ] at hu;rcases hu with rfl|rfl|rfl|rfl<;>rfl) (by rw[quads_length];omega))) (fun v L' hC w hw=>hw.pick (.nil)) ?_;rintro _ _ ⟨⟨A85,l85,c85,rfl⟩,rfl⟩;refine Yz [2] ?_;refine AO J J J J (AP (cs':=IR c (.slice A85 l85 c85)) J J J A0E J (by show 10<15;decide) J) PN ?_;refine AF J ?_;simp only[zq,zr];refine Aa<|Zs<|Za<|Zx<|At<|Ci ?_;refine AZ (E':=[(6,_)]) ⟨J,trivial⟩ (L':=[BK c (.slice A85 l85 c85),EY (.slice A85 l85 c85) (st++[(pl,pr)]),Cf c.gr ref]) (Et (.cons' 0 J (congrArg (Bf _ _ _) (G9 st (pl,pr)).symm) (CY .nil))) ?_;refine Zh ?_;have hne:¬(pl=noI/\pr=noI):=fun h=>by rw[Rs] at c21;simp at c21;exact c21.elim (fun g=>g h.1) fun g=>g h.2
  rw[if_neg hne] at hJR;exact⟨true,_,_,ref,J,J,hm,fun _=>hJR,fun h=>absurd h (by simp)⟩
 refine Ao<|Aa<|Zs<|Za<|Zx<|At<|Ci ?_;refine AZ (E':=[(6,_)]) ⟨J,trivial⟩ (BC (BC (BC .nil))) ?_;refine Zh ?_;have hne:pl=noI/\pr=noI:=by rw[Rs] at c21;simpa using c21
 rw[if_pos hne] at hJR;exact⟨true,_,_,ref,J,J,hm,fun _=>hJR,fun h=>absurd h (by simp)⟩
end
structure LnS (c:TC) (s:TS):Prop where
 ref:s.ref.length=c.m
 side:s.side.length=c.m
 bot:s.bot.length=c.m
 low:s.low.length=c.m
 pm:Z7 s.side
section
variable{w:World}{c:TC}{vp:Value}{es:List Pr}{pa he oi lo:List Int}{out:List (List Int)}
theorem out_at{out:List (List Int)}{v:Int}{n:Nat}{h:Int}(h0:0<=v)(hn:(DT out v)[n]? =some h):out[v.toNat]? =some (DT out v):=by
 unfold DT at hn ⊢;cases e:out[v.toNat]? with
 | none=>rw[e] at hn;simp at hn
 | some l=>rfl
theorem JQ{Hm r v h:Int}{n μ:Nat}{l:List (Int×Nat)}{s:TS}
 (hO:AR w (AY (TL c s)) w (TL c s))(hD:Dk w (AY (TL c s)) (DtV c es pa he oi lo out))(hn:LnT c es pa he oi lo out)(hs:LnS c s)(hF:CD es (Ae pa) (Ae he) (Ae oi) c.N)(hL:B9 es (Ae pa) (Ae he) (Ae oi) (Ae lo) c.N (DT out))
 (hp:PJ es (Ae pa) (Ae he) (Ae oi) (Ae lo) c.N (DT out) Hm r (fI s.bot) (fI s.low) (fI s.ref) l v n h μ s.st):
  Calls A1c 56 #[.pointer (some ⟨c.g,0,none⟩),Iv v,Iv n] w (Ret w (AY (TL c s)) fun r' M=>∃ok s',r'= .bool ok/\M=TL c s'/\LnS c s'/\
   (ok=true->∃S P,WS es (Ae pa) (Ae he) (Ae oi) (Ae lo) c.N (DT out) Hm r (fI s'.bot) (fI s'.low) (fI s'.ref) (l++[(v,n+1)]) S P μ s'.st)/\(ok=false->¬∃s,VM es (Ae pa) (Ae he) (Ae oi) s)):=by
 have hmb:=hn.mb;have hnm:=hn.m;have hnlo:=hn.lo;have hnhe:=hn.he;have hnpa:=hn.pa;have hnoi:=hn.oi;have hN0:=hn.N0;have hN1:=hn.N1;have hno:=hn.out;have hsl:=hs.low;have hlen:=pj_len hF hL hp;obtain⟨⟨v0,v1⟩,ho,hor,hfr⟩:(0<=v/\v<c.N)/\(DT out v)[n]? =some h/\DS es (Ae oi) h/\Aj es h=v:=by
  obtain⟨S,P,Q,h1,h2,_⟩:=hp;have ht:=h1.top hF hL;exact⟨ht.1,h2,((hL.mem v ht.1.1 ht.1.2 h).1 (A1h h2)).1,((hL.mem v ht.1.1 ht.1.2 h).1 (A1h h2)).2⟩
 have hh0:=hor.1.1;have hh1:=hor.1.2;have hnl:=(A1e.1 ho).1;obtain⟨ado,capo,lv,hvo,hoc1,hoc2,hov,Al,capl,rfl,hlc1,hlc2,hlx⟩:=TM hD (fun _ h=>h.ho) (out_at v0 ho);obtain⟨adl,rfl,hlh⟩:=hlx n h ho;obtain⟨Aw,cw,hvl,hwc,hwm,hwf,hwl⟩:=EW hD (fun _ h=>h.hl);obtain⟨Ah,ch,hvh,hhc,hhm,hhf,hch⟩:=EW hD (fun _ h=>h.h1);obtain⟨adw,rfl,hwe⟩:=hwl (h / 2) (by omega) (by omega);obtain⟨adh,rfl,hhv⟩:=hch v v0 (by omega);refine BO (args:=[_,_,_]) Tryz.func56 J Tryz.ntmps56 J hO<|Zs ?_;refine Za<|Zx<|Zs ?_;refine Zz [4] ?_;refine Zu (AG J J Z0 (AK (by unfold IR;rw[hvo];rfl))) ?_;refine Zm ?_;refine Zj (ado.add v.toNat) ?_;refine Zu (AG J J D8 (hov _)) ?_;refine Zm ?_;refine Zj (adl.add n) ?_;refine Zu (AG J J CA (hlh _)) ?_;refine Zo (Gi J J J (by omega) (by omega)) ?_;refine Za<|Zx<|Ai<|Ai ?_;refine Fv 1001000010010000 17 ?_;refine Yz [4] ?_;refine Yg ?_ (hh:=by exact(AK (by unfold IR;rw[hvl];rfl)));refine Ym ?_;refine Yj (adw.add (h / 2).toNat) ?_;refine Yh (hwe _) ?_;refine Yz [4] ?_;refine Yg ?_ (hh:=by exact(AK (by unfold IR;rw[hvh];rfl)));refine Ym ?_;refine Yj (adh.add v.toNat) ?_;refine Yh (hhv _) ?_;refine Yz [1] ?_;refine AF J ?_;simp only[zq,zr];refine Aa ?_;refine Zd ?_ ?_<;>intro c2
 .refine Zs<|Za<|Zx<|At<|Ad ?_;refine AZ (E':=[(6,_)]) ⟨J,trivial⟩ (Ay _) ?_;refine Zh ?_;have hle:Ae he v<=Ae lo (h / 2):=by simpa using c2
  exact⟨true,s,J,J,hs,fun _=>A0Q hF hL hp hle,fun h=>absurd h (by simp)⟩
 have hlt:Ae lo (h / 2)<Ae he v:=by simpa using c2
 have hpv:=Tu hF hL hp hlt;obtain⟨ht,_⟩:=hF.par v0 v1 hpv;have hpr:=ht.1.1.2;refine Ao<|Aa<|Zs<|Zz [2] ?_;refine AL J J (AH en58 J J J (fun w hw=>IO (hw.holds (BK c _) (A1m ..)) (hD.own hw).h0 v0 (by omega) (by omega))) ?_;rintro _ rfl;rw[if_neg (by omega)];refine Za<|Zx<|Ai<|Zs ?_;refine Zz [2]<|Zx ?_;refine Zd ?_ ?_<;>intro c5
 .refine Ai ?_;refine Fv 30100100001000 14 ?_;refine Yz [3,4,1] ?_;refine Yj ⟨c.gl,(h / 2).toNat,none⟩ ?_;refine Yg ?_ (hh:=by exact(AK (Br (Gm (by omega) (by omega)))));refine Yj ⟨c.gl,(Ae pa v / 2).toNat,none⟩ ?_;refine AO J J J J (AP (cs':=(AA (s.low.set (Ae pa v / 2).toNat (fI s.low (h / 2)))).toArray) J J J Bw J (by simp;omega) BP) PN ?_;refine AF J ?_;simp only[zq,zr];refine Aa<|Zs<|Za<|Zx<|At<|Ad ?_;refine AZ (E':=[(6,_)]) ⟨J,trivial⟩ (Ay _) ?_;refine Zh ?_;have hn0:n=0:=by simp at c5;omega
  subst hn0;exact⟨true,{ s with low:=s.low.set (Ae pa v / 2).toNat (fI s.low (h / 2)) },rfl,rfl,⟨hs.ref,hs.side,hs.bot,by simpa using hs.low,hs.pm⟩,fun _=>by
   dsimp only;rw[CU (by omega) (by omega)];exact X9 hF hL hp hlt,fun h=>absurd h (by simp)⟩
 have hn0:0<n:=by simp at c5;omega
 obtain⟨S,p0,Pt,b0,e0,y0,j1,j2,j3,j4,j5,j6,j7,j8,j9,j10,j11⟩:=A0R hF hL hp hn0 hlt;refine Ao<|Aa<|Zs<|Zz [3] ?_;refine AU J J (BT en98 J J J (Lc:=[BK c s.vp,EY s.vp s.st,Cf c.gr s.ref]) (F:=[Cf c.gs s.side,Cf c.gb s.bot,Cf c.gl s.low]) (.refl _) (fun k hk=>hk) (fun w hw=>Lh (bot:=s.bot) (low:=s.low) (es:=es) (pa:=pa) (he:=he) (oi:=oi) (lo:=lo) (out:=out) (hw.sub (A1J [BK c s.vp,EY s.vp s.st,Cf c.gr s.ref] _)).self
  (IH (Lc:=[BK c s.vp,EY s.vp s.st,Cf c.gr s.ref]) hw fun w' hw'=>⟨hD.own hw',hw'.holds (Cf c.gb s.bot) (by simp),hw'.holds (Cf c.gl s.low) (by simp)⟩) hn hs.ref hs.bot hs.low (by omega) hF hL j1 j2 j3 j4 j5 j6 j7 j8 j9 (by omega) (by omega) (by omega) (by omega))) ?_;rintro _ _ ⟨_,⟨ok,vp',st',ref',rfl,rfl,hm',q1,q2⟩,rfl⟩;simp only[zs];refine Za<|Zx<|At ?_;refine AZ (E':=[(6,_)]) ⟨J,trivial⟩ (Ay _) ?_;refine Zh ?_;exact⟨ok,⟨vp',st',ref',s.side,s.bot,s.low⟩,J,J,⟨hm',hs.side,hs.bot,hs.low,hs.pm⟩,fun h=>j10 _ _ (q1 h),fun h=>j11 (q2 h)⟩
end
structure WI where
 v:Nat
 s:St
 vo:Value
 vw:Value
structure WJ where
 s:St
 vo:Value
 vw:Value
 k:List (Int×List Int)
def Gz(k:List (Int×List Int)):List Pr:=(k.map fun p=>(p.1,(p.2[0]?).getD (-1))).reverse
def kOk(N:Int)(es:List Pr)(k:List (Int×List Int)):Prop:=∀p,p∈k->0<=p.1/\p.1<N/\∃q,Bs es p.1=q++p.2
def phW(es:List Pr)(k:List (Int×List Int))(s:St):Nat:=(k.map fun p=>1+p.2.length).sum+Cs s.oi*(2*es.length+2)
theorem Gy(v:Int)(l:List Int)(k:List (Int×List Int)):Gz ((v,l)::k)=Gz k++[(v,(l[0]?).getD (-1))]:=by simp[Gz]
theorem Og:∀(es:List Pr) (k:Nat) (v:Int),(Dn k es v).length<=es.length
 | [],k,v=>by simp[Dn]
 | e::r,k,v=>by
  unfold Dn;have:=Og r (k+1) v;rw[A1V,A2a];split
  .simp;omega
  split<;>simp<;>omega
theorem Yt(es:List Pr)(v:Int):(Bs es v).length<=es.length:=Og es 0 v
theorem EB(a:List Pr)(x y:Int)(sp:List Value):((Cj (a++[(x,y)])++sp).toArray)[a.length*2]? =some (Iv x)/\((Cj (a++[(x,y)])++sp).toArray)[a.length*2+1]? =some (Iv y):=by
 have e:Cj (a++[(x,y)])=Cj a++[Iv x,Iv y]:=by rw[Dc];rfl
 rw[e];have hl:(Cj a).length=a.length*2:=prs_length a;constructor
 .simp[List.getElem?_append,hl]
 simp[List.getElem?_append,hl]
theorem Mi(a:List Pr)(x y z:Int)(sp:List Value):((Cj (a++[(x,y)])++sp).toArray).setIfInBounds (a.length*2+1) (Iv z)=(Cj (a++[(x,z)])++sp).toArray:=by
 have e:∀y,Cj (a++[(x,y)])=Cj a++[Iv x,Iv y]:=fun y=>by rw[Dc];rfl
 have hl:(Cj a).length=a.length*2:=prs_length a;apply Array.ext';simp only[Array.toList_setIfInBounds,e];rw[A1L,A1L,List.set_append_right _ _ (by omega),hl,show a.length*2+1-a.length*2=1 by omega]
 rfl
theorem KK{w0 w:World}{K:List Nat}{F:List Chunk}{a:List Pr}{x y:Int}{gw cap:Nat}{sp:List Value}(h1:a.length+1<=cap)(h2:cap<=9223372036854775807)(h3:(Cj (a++[(x,y)])).length+sp.length=cap*2)
 (hw:AR w0 K w (AC gw 107 (Cj (a++[(x,y)])++sp).toArray::F)):AR w0 K w (Bf (.slice (So gw) (a.length+1) cap) 107 2 (Cj (a++[(x,y)]))::F):=
 Ca (by simp) (by decide) h1 h2 (by simpa using h3) (by
  have:(Cj (a++[(x,y)])).length=(a.length+1)*2:=by simp
  rw[<-this];exact A2T) hw
theorem WW{w0 w:World}{K:List Nat}{F:List Chunk}{a:List Pr}{x y:Int}{gw cap:Nat}{sp:List Value}(h1:a.length+1<=cap)(h2:cap<=9223372036854775807)(h3:(Cj (a++[(x,y)])).length+sp.length=cap*2)
 (hw:AR w0 K w (AC gw 107 (Cj (a++[(x,y)])++sp).toArray::F)):AR w0 K w (Bf (.slice (So gw) a.length cap) 107 2 (Cj a)::F):=
 Ca (by simp) (by decide) (by omega) h2 (by simpa using h3) (by
  have:(Cj a).length=a.length*2:=by simp
  rw[<-this,Dc,A1L];exact A2T) hw
theorem XV{N:Int}{es:List Pr}{v:Int}{s sf:St}(hR:Qu es N v s sf)(h:v<N)(h0:0<=Ae s.he v):Qu es N (v+1) s sf:=by
 cases hR with
 | done h'=>omega
 | skip _ _ r=>exact r
 | root _ hh _ _=>omega
theorem XW{N:Int}{es:List Pr}{v:Int}{s sf:St}(hR:Qu es N v s sf)(h:v<N)(h0:Ae s.he v<0):∃s1,Qw es v (Bs es v) (s.enter v (-1) 0) s1/\Qu es N (v+1) s1 sf:=by
 cases hR with
 | done h'=>omega
 | skip _ hh _=>omega
 | root _ _ r1 r=>exact⟨_,r1,r⟩
theorem XX{N:Int}{es:List Pr}{v:Int}{s sf:St}(hR:Qu es N v s sf)(h:N<=v):s=sf:=by
 cases hR with
 | done h'=>rfl
 | skip h' _ _=>omega
 | root h' _ _ _=>omega
theorem TD{w0 w:World}{K:List Nat}{F:List Chunk}{g t:Nat}{xs:List Int}(h:xs.length<=9223372036854775807)(hw:AR w0 K w (AC g t (AA xs).toArray::F)):AR w0 K w (Bf (sl g xs) t 1 (AA xs)::F):=
 Ca (by simp) (by decide) (A1F _) h (by simp) (by rw[A3d,<-ints_length xs];exact A1T) hw
theorem Uo(N:Int)(es:List Pr)(va:Value)(w:World)(hg:DX w va es):
  Calls A1c 22 #[.agg #[Iv N,va]] w (Ret w [] fun v L=>
   (¬BX N es/\L=[]/\v= .tuple #[.agg #[Nv,Nv,Nv,Nv],Iv 1])\/
   (BX N es/\∃s v0 v1 v2 v3,Qu es N 0 (start N es.length) s/\Inv N es.length (es.length+N.toNat) s/\v= .tuple #[.agg #[v0,v1,v2,v3],Iv 0]/\L=forL v0 v1 v2 v3 s.pa s.he s.od s.oi)):=by
 obtain⟨A,cap,rfl,hr,hlc,hcm,hl⟩:=hg;refine cO Tryz.func22 Tryz.ntmps22<|Zs ?_;refine ZB fun g1=>?_;refine ZA ze58 fun g2=>?_;refine Za<|Zx<|Zs ?_;refine CR [_,_] ?_;refine Bk J J (AH en36 J J J (fun w' hw=>KR N es A cap w' (hr.keep0 hw) (by omega))) ?_;rintro v15 L15 hC15;obtain⟨p,e,rfl,hC⟩:∃p e,v15= .tuple #[.pointer p,Iv e]/\((¬BX N es/\L15=[]/\p=none/\e=1)\/(BX N es/\∃M,Xj N es M/\p=some ⟨M.gp,0,none⟩/\e=0/\L15=NI M)):=by
  rcases hC15 with⟨h1,h2,h3⟩|⟨h1,M,h2,h3,h4⟩
  .exact⟨_,_,h3,.inl ⟨h1,h2,J,J⟩⟩
  exact⟨_,_,h3,.inr ⟨h1,M,h2,J,J,h4⟩⟩
 clear hC15;refine Zz [3] ?_;refine ZA ze97 fun g4=>?_;refine Jj #[_] ?_;refine Za<|Zx<|Ai<|Zs ?_;refine Zz [2]<|Zx ?_;refine Zd ?_ ?_<;>intro c2
 .rcases hC with⟨hV,rfl,rfl,rfl⟩|⟨_,_,_,_,rfl,_⟩;rotate_left 1
  .simp at c2
  simp only[A1N];refine Zs ?_;refine ZS #[_,_,_,_] bs58 ?_;refine Zm ?_;refine Zq #[_,_,_,_] ?_;refine Za<|Zx<|At<|Ad ?_;refine DI (cs:=#[_,_,_,_]) (.inl J) J J J ag58 XF ?_;exact⟨_,fun w hw=>hw.pick .nil,.inl ⟨hV,J,J⟩⟩
 rcases hC with⟨_,_,_,rfl⟩|⟨hV,M,hP,rfl,rfl,rfl⟩
 .simp at c2
 have hN0:=hV.lo;have hN1:=hV.hi;have hfew:=hV.few;obtain⟨Nn,rfl⟩:=A1n hN0;have hNn:Nn<=1048576:=by omega
 simp only[NI,A1K,A1N];refine Ao<|Aa<|Ai ?_;refine Fv 320441410410 12 ?_;refine Yz [1,0] ?_;refine CQ J J J J (AH Y1 J J J (fun w' hw=>EG Nn (-1) w' (by omega))) ?_;rintro _ _ ⟨ga,rfl,rfl⟩;refine Yz [1,0] ?_;refine CQ J J J J (AH Y1 J J J (fun w' hw=>EG Nn (-1) w' (by omega))) ?_;rintro _ _ ⟨gh,rfl,rfl⟩;refine Yl ag97 ?_;refine BF.rel0 J J J J (AH en38 J J J (fun w' hw=>VG (LC hw (BC (BC (BC (BC (BC .nil))))) hP))) ?_;rintro _ rfl;refine CQ J J J J (AH Y1 J J J (fun w' hw=>EG es.length (-1) w' (by omega))) ?_;rintro _ _ ⟨gr,rfl,rfl⟩;refine Yo J (Dy (cs:=#[_,_,_,_]) J J bs58 J J) ?_;refine A8 J J J J (DL J ze58 J) fun g6=>?_;refine BF.sto (V:=[AC g6 58 #[Nv,Nv,Nv,Nv],AC gr _ _,AC gh _ _,AC ga _ _,AC g4 _ _,AC M.gp _ _,AC M.g0 _ _,AC M.g1 _ _,AC M.g2 _ _,AC M.g3 _ _,AC g2 _ _,AC g1 24 #[Iv (Nn:Int),.slice A es.length cap]]) J J J J J (B3 (cs':=#[_,_,_,_]) J J J XF J (A1f J) J) PN ?_;refine AF J ?_;simp only[zq,zr];refine Aa<|Zs ?_;refine ZA ze104 fun g7=>Zx<|Zs ?_;refine Zo (Fu J J J) ?_;refine Za<|Zx<|Ai<|Zs ?_;refine Zz [1,1]<|Zx<|As ?_;obtain⟨sf,hR0,hIf⟩:=SZ hV;refine DC.own (fun w hw=>Ck (t:=3) (m:=1) (Ck (t:=107) (m:=2) hw)) ?_;let ca:=AC g2 58 #[Nv,Nv,Nv,Nv];refine AS (ι:=WI) (fun i=>i.v<=Nn/\Qu es Nn i.v i.s sf/\Inv Nn es.length (es.length+i.v) i.s)
  (fun i=>[(2,Pv g2),(4,Pv g4),(6,Pv g6),(7,Pv g7),(8,.func (.func 39) #[] #[Pv g6,Pv g7,Pv g4]),(34,Iv (Nn:Int)),(35,Iv i.v)])
  (fun i=>GB ⟨g6,g7,g4,ga,gh,gr⟩ M i.vo i.vw i.s []++[ca])
  (fun i=>Nn-i.v) ⟨0,start Nn es.length,Nv,Nv⟩ ⟨A1E _,hR0,by simpa using Or⟩ ⟨J,J,J,J,J,J,J,trivial⟩ ?_ ?_
 .simp only[GB,A1K,A1N];exact .cons' 3 J (by simp[start,sl]) (.cons' 5 J (by simp[start]) (.cons' 4 J (by simp[start]) (.cons' 0 J J (.cons' 2 J (by simp[start]) (BC (Bg (Bg (.cons' 0 J J (.cons' 0 J J (.cons' 0 J J (.cons' 0 J J (.cons' 0 J J (Bg .nil)))))))))))))
 rintro⟨v,s,vo,vw⟩ ⟨hv,hR,hI⟩;dsimp only at hv hR hI ⊢;simp only[GB,A1K,A1N];refine Zs<|Zc<|Zx<|Ai ?_;refine Zd ?_ ?_<;>intro c8
 .have hlt:v<Nn:=by simpa using c8
  have hat:=hI.at (v:=v) (by omega) (by omega);have hhl:=hI.hel;refine Ao<|Aa<|Ai<|As<|Zs<|Zz [2]<|Zx<|Ai<|Zs ?_;refine Zz [1,1] ?_;refine Zi (ad':=⟨gh,v,none⟩) A1x Bw ?_ (he:=by rw[AX];rfl);refine Zu (AG J J CA (AK (Br hat.1))) ?_;refine Zz [1]<|Zx ?_;refine Zd ?_ ?_<;>intro c10
  .refine AN<|Ag<|Aq<|Aa<|Ak<|Zz [2]<|Az ?_;have h0:0<=Ae s.he v:=by simpa using c10
   refine AB (WI.mk (v+1) s vo vw) (by dsimp only;omega) ⟨by dsimp only;omega,XV hR (by omega) h0,hI.more 1⟩ ⟨J,J,J,J,J,J,J,trivial⟩ (Ay _)
  have h0:Ae s.he v<0:=by simp at c10;omega
  obtain⟨s1,hD,hR1⟩:=XW hR (by omega) h0;have hfewc:=hI.few;have hu0:Cs s.oi<=s.oi.length:=A2n;have hI1:Inv Nn es.length (es.length+(v+1)) (s.enter v (-1) 0):=(hI.more 1).enter (by omega) (by rw[hI.oil] at hu0;omega) (by omega);refine Ao<|Aa<|Zs<|Zz [2] ?_;refine AU J J (BT en39 J J J (Lc:=GB ⟨g6,g7,g4,ga,gh,gr⟩ M vo vw s []) (F:=[AC g2 _ _]) (.refl _) (fun _ h=>h) (fun w hw=>KV (hw.sub (A1J _ [_])).self hP hI (by omega) (by omega) (by omega) (by simp))) ?_;rintro _ _ ⟨_,⟨rfl,vo1,vw1,rfl⟩,rfl⟩;refine Zx<|As ?_;refine AS (ι:=WJ) (fun j=>kOk Nn es j.k/\Inv Nn es.length (es.length+(v+1)) j.s/\j.k.length+Cs j.s.oi<=es.length+1/\Stk es j.k j.s s1)
   (fun j=>[(2,Pv g2),(4,Pv g4),(6,Pv g6),(7,Pv g7),(8,.func (.func 39) #[] #[Pv g6,Pv g7,Pv g4]),(34,Iv (Nn:Int)),(35,Iv v)])
   (fun j=>GB ⟨g6,g7,g4,ga,gh,gr⟩ M j.vo j.vw j.s (Gz j.k)++[ca])
   (fun j=>phW es j.k j.s) ⟨s.enter v (-1) 0,vo1,vw1,[((v:Int),Bs es v)]⟩ ⟨by intro p hp;simp at hp;subst hp;exact⟨by omega,by omega,[],rfl⟩,hI1,?_,.cons hD .nil⟩ ⟨rfl,rfl,rfl,rfl,rfl,rfl,rfl,trivial⟩ (Ay _) ?_
  .show 1+Cs s.oi<=es.length+1;rw[hI.oil] at hu0;omega
  rintro⟨s,vo,vw,k⟩ ⟨hk,hI,hku,hS⟩;dsimp only at hk hI hku hS ⊢;simp only[GB,A1K,A1N];refine Ai<|Zs ?_;refine AL J J (AH en42 J J J (fun w hw=>Tf (hw.pick (Xn (Xn .nil))).self)) ?_;rintro _ rfl;refine Zx ?_;refine Zd ?_ ?_<;>intro c12
  .simp only[decide_eq_true_eq] at c12;obtain⟨⟨v',l⟩,k',rfl⟩:∃p k',k=p::k':=by
    cases k with
    | nil=>exact absurd rfl c12
    | cons p k'=>exact⟨p,k',rfl⟩
   rw[Gy];have hkp:=hk (v',l) (A1m ..);obtain⟨hv0,hv1,q,hq⟩:=hkp;dsimp only at hv0 hv1 hq;obtain⟨sx,r1,rS⟩:∃sx,Qw es v' l s sx/\Stk es k' sx s1:=by
    cases hS with
    | cons a b=>exact⟨_,a,b⟩
   refine DC.own (PK (W6 (Ay _))) ?_;simp only[A2Q,A3C];refine DC.open (fun _ h=>absurd (congrArg List.length h) (by simp)) ?_;rintro gw len cw sp rfl hlen hlc' hcw hsp;obtain rfl:len=(Gz k').length+1:=by simp at hlen;omega
   refine Ao<|Aa<|As<|Zs ?_;refine AL J J (AH en43 J J J (fun w hw=>VU (gw:=gw) (len:=(Gz k').length+1) (cap:=cw) (Py g7 hw) (by omega) (by have:=hku;simp at this;simp[Gz];omega))) ?_;rintro _ rfl;refine Za<|Zx<|Zs ?_;refine Zz [3] ?_;refine Zu (AG J J CA (AK (EB _ _ _ _).2)) ?_;refine Za<|Zx<|Ai<|Zs ?_;refine Zz [2]<|Zx ?_;refine Zd ?_ ?_<;>intro c15
   .have hl0:l=[]:=by
     cases l with
     | nil=>rfl
     | cons h l=>
      have:=(Bb hV (v:=v') (h:=h)).1 (by rw[hq];simp);simp at c15;omega
    subst hl0;cases r1;refine Zs ?_;refine AU J J (D7 en44 J J J (Lc:=[AC g7 104 #[.slice (So gw) ((Gz k').length+1) cw]]) (F:=[AC gw _ _,AC g6 _ _,AC ga _ _,AC gh _ _,Bf _ _ _ _,AC gr _ _,AC g4 _ _,AC M.gp _ _,AC M.g0 _ _,AC M.g1 _ _,AC M.g2 _ _,AC M.g3 _ _,AC g2 _ _]) (PK (W6 (Ay _))) (fun _ h=>h) (fun w hw=>Wa (hw.sub (A1J [_] _)).self (by omega) (by have:=hku;simp at this;simp[Gz];omega) hlc')) ?_;rintro _ _ ⟨_,⟨rfl,rfl⟩,rfl⟩;refine Zx<|AN<|Ag<|Aq ?_;refine Dl.own (fun w hw=>WW hlc' hcw hsp (hw.pick (BC (Ay _)))) ?_;refine AB (WJ.mk s vo (.slice (So gw) (Gz k').length cw) k') (by simp[phW]) ⟨fun p hp=>hk p (A1q _ hp),hI,by simp at hku ⊢;omega,rS⟩ ⟨J,J,J,J,J,J,J,trivial⟩
     (CY (CY (CY (CY (CY (BC (Bg (Ay _))))))))
   obtain⟨h,l',rfl⟩:∃h l',l=h::l':=by
    cases l with
    | nil=>simp at c15
    | cons h l=>exact⟨h,l,rfl⟩
   have hm:=(Bb hV (v:=v') (h:=h)).1 (by rw[hq];simp);obtain⟨hm0,hm1,hm2⟩:=hm;simp only[List.getElem?_cons_zero,A2B] at *;have hol:=hI.oil;have hhl:=hI.hel;have hoi:s.oi[(h / 2).toNat]? =some (Ae s.oi (h / 2)):=BM (by omega);refine Ao<|Aa<|Zs<|Zz [1,1] ?_;refine AL J J (AH en45 J J J (fun w hw=>La (LC hw (Jp8 (Jp8 (Jp8 (Jp8 (Jp8 .nil))))) hP) h)) ?_;rintro _ ⟨r,rfl,hr1,hr2⟩;have hrv:r=(l'[0]?).getD (-1):=by
    have h5:(Bs es v')[q.length]? =some h:=by rw[hq];simp
    have h6:=hr1 v' q.length h5;rw[h6,hq,A1p (by omega),show q.length+1-q.length=1 by omega];rfl
   have hsp':(Cj (Gz k'++[(v',r)])).length+sp.length=cw*2:=by simpa using hsp
   refine Zz [2] ?_;refine Zy (AP (cs':=(Cj (Gz k'++[(v',r)])++sp).toArray) J J J Bw J (by simp at hsp ⊢;omega) (Mi _ _ _ _ _))<|Zx<|Ai<|Zs ?_;refine Zz [1,1] ?_;refine Zo (Gi J J J (by omega) (by omega)) ?_;refine Zj ⟨gr,(h / 2).toNat,none⟩ ?_;refine Zu (AG J J CA (AK (Br hoi))) ?_;refine Zz [1]<|Zx ?_;refine Zd ?_ ?_<;>intro c18
   .refine AN<|Ag<|Aq ?_;have ho:0<=Ae s.oi (h / 2):=by simpa using c18
    have rr:Qw es v' l' s sx:=by
     cases r1 with
     | seen _ r=>exact r
     | back ho' _ _=>omega
     | tree ho' _ _ _=>omega
    refine Dl.own (fun w hw=>KK hlc' hcw hsp' hw) ?_;refine AB (WJ.mk s vo (.slice (So gw) ((Gz k').length+1) cw) ((v',l')::k')) (by simp[phW]) ⟨?_,hI,hku,.cons rr rS⟩ ⟨J,J,J,J,J,J,J,trivial⟩
     (BC (BC (BC (BC (BC (BC (.cons' 0 J (by rw[Gy,hrv]) (Ay _))))))));intro p hp;rcases A1H.1 hp with rfl|hp
    .exact⟨hv0,hv1,q++[h],by simp[hq]⟩
    exact hk p (A1q _ hp)
   have ho:Ae s.oi (h / 2)<0:=by simp at c18;omega
   obtain⟨hI1,hu1⟩:=hI.ori hm0 ho;have htv:=Dg hV hm0 hm1;have hatw:=hI.at htv.1 htv.2;have hatv:=hI.at hv0 hv1;refine Ao<|Aa<|Zs<|Zz [1,1] ?_;refine Zo (Gi J J J (by omega) (by omega)) ?_;refine Zm ?_;refine Zj ⟨gr,(h / 2).toNat,none⟩ ?_;refine Zy (AP (cs':=(AA (s.oi.set (h / 2).toNat h)).toArray) J J J Bw J (by simp;omega) BP)<|Zx<|Zs ?_;refine Zz [0,1] ?_;refine AL J J (AH Sf J J J (fun w hw=>Fp (LC hw (Jp8 (Jp8 (Jp8 (Jp8 (Jp8 .nil))))) hP) h)) ?_;rintro _ rfl;refine Za<|Zx<|Zs ?_;refine Zz [1,1] ?_;refine Zj ⟨gh,(AD es h).toNat,none⟩ ?_;refine Zu (AG J J CA (AK (Br hatw.1))) ?_;refine Zc<|Zx ?_;refine Zd ?_ ?_<;>intro c21
   .refine Fv 3010100010000 13 ?_;refine Yz [4,3] ?_;refine Yh (AK (EB _ _ _ _).1) ?_;refine Yj ⟨gh,v'.toNat,none⟩ ?_;refine Yh (AK (Br hatv.1)) ?_;refine Yz [1] ?_;refine BF.gen0 J J J J (D7 en39 J J J (Lc:=GB ⟨g6,g7,g4,ga,gh,gr⟩ M vo (.slice (So gw) ((Gz k').length+1) cw) (s.ori h) (Gz k'++[(v',r)])) (F:=[ca]) (fun w hw=>(KK hlc' hcw hsp' hw).pick (.cons' 1 J (by simp[sl,St.ori]) (BC (BC (BC (.cons' 1 J J (BC (Bg (Ay _))))))))) (fun _ h=>h)
     (fun w hw=>KV (hw.sub (A1J _ [_])).self hP hI1 htv.1 htv.2 (by have:=hI1.few;omega) (by have:=hku;simp at this;simp[Gz];omega))) (fun v L' hC w hw=>hw.pick (.nil)) ?_;rintro _ _ ⟨_,⟨rfl,vo2,vw2,rfl⟩,rfl⟩;refine AF J ?_;simp only[zq,zr];refine An ?_;have hw0:Ae s.he (AD es h)<0:=by simpa using c21
    obtain⟨s2,rr1,rr2⟩:∃s2,Qw es (AD es h) (Bs es (AD es h)) ((s.ori h).enter (AD es h) h (Ae s.he v'+1)) s2/\Qw es v' l' s2 sx:=by
     cases r1 with
     | seen ho' _=>omega
     | back _ hw' _=>omega
     | tree _ _ a b=>exact⟨_,a,b⟩
    have hI2:Inv Nn es.length (es.length+(v+1)) ((s.ori h).enter (AD es h) h (Ae s.he v'+1)):=hI1.enter (by omega) (by omega) (by have:=hI.few;show s.od.length+1+Cs (s.ori h).oi<=_;omega);have hu2:Cs ((s.ori h).enter (AD es h) h (Ae s.he v'+1)).oi=Cs (s.ori h).oi:=rfl;have hol:=Yt es (AD es h);refine AB (WJ.mk ((s.ori h).enter (AD es h) h (Ae s.he v'+1)) vo2 vw2 ((AD es h,Bs es (AD es h))::(v',l')::k')) ?_ ⟨?_,hI2,?_,.cons rr1 (.cons rr2 rS)⟩ ⟨J,J,J,J,J,J,J,trivial⟩ ?_
    .simp only[phW,hu2,<-hu1,A1M,A2l,A2a,A3f];omega
    .intro p hp;rcases A1H.1 hp with rfl|hp
     .exact⟨htv.1,htv.2,[],J⟩
     rcases A1H.1 hp with rfl|hp
     .exact⟨hv0,hv1,q++[h],by simp[hq]⟩
     exact hk p (A1q _ hp)
    .dsimp only;rw[hu2];simp at hku ⊢;omega
    have e:Gz ((AD es h,Bs es (AD es h))::(v',l')::k')=Gz k'++[(v',r)]++[(AD es h,(Bs es (AD es h))[0]?.getD (-1))]:=by rw[Gy,Gy,hrv]
    dsimp only;rw[e];exact Ay _
   refine Ao<|An ?_;have hw0:0<=Ae s.he (AD es h):=by simp at c21;omega
   have rr:Qw es v' l' (s.ori h) sx:=by
    cases r1 with
    | seen ho' _=>omega
    | back _ _ r=>exact r
    | tree _ hw' _ _=>omega
   refine Dl.own (fun w hw=>KK hlc' hcw hsp' hw) ?_;refine AB (WJ.mk (s.ori h) vo (.slice (So gw) ((Gz k').length+1) cw) ((v',l')::k')) ?_ ⟨?_,hI1,by simp at hku ⊢;omega,.cons rr rS⟩ ⟨J,J,J,J,J,J,J,trivial⟩
    (.cons' 1 J (by simp[sl,St.ori]) (BC (BC (BC (BC (BC (.cons' 0 J (by rw[Gy,hrv]) (Ay _))))))))
   .simp only[phW,<-hu1,A1M,A2l,A2a,A3f];omega
   intro p hp;rcases A1H.1 hp with rfl|hp
   .exact⟨hv0,hv1,q++[h],by simp[hq]⟩
   exact hk p (A1q _ hp)
  refine AN<|Ag<|Ag<|Aq<|An<|Aa<|Ak<|Zz [2]<|Az ?_;have hk0:k=[]:=by
   cases k with
   | nil=>rfl
   | cons p k=>simp[Gz] at c12
  subst hk0;obtain rfl:s=s1:=by cases hS;rfl
  refine AB (WI.mk (v+1) s vo vw) (by dsimp only;omega) ⟨by dsimp only;omega,hR1,hI⟩ ⟨J,J,J,J,J,J,J,trivial⟩ (Ay _)
 obtain rfl:v=Nn:=by simp at c8;omega
 obtain rfl:=XX hR (by omega);refine DC.shape 3 J ?_;rintro⟨A3,l3,c3,rfl⟩;refine AN<|Ag<|Ag<|Aq<|Aa<|Zs ?_;refine CR [_,_,_,_] ?_;refine Zq #[_,_,_,_] ?_;refine Za<|Zx<|At ?_;refine DI (cs:=#[_,_,_,_]) (.inl J) J J J ag58 XF ?_;refine⟨_,fun w hw=>?_,.inr ⟨hV,s,_,_,_,_,hR0,hIf,J,J⟩⟩;have k1:AR _ _ w (Bf _ _ _ _::_):=TD (by rw[hIf.oil];omega) (hw.pick (LQ (Ay _)));have k2:AR _ _ w (Bf _ _ _ _::_):=TD (by rw[hIf.hel];omega) (k1.pick (Et (Ay _)));have k3:AR _ _ w (Bf _ _ _ _::_):=TD (by rw[hIf.pal];omega) (k2.pick (Et (Ay _)));exact k3.pick (Bg (Bg (CY (Bg .nil))))
section
open Classical
inductive Wy (ref:Int->Int):Int->List Int->Prop
 | one {x:Int}:ref x= -1->Wy ref x [x]
 | cons {x:Int} {c:List Int}:0<=ref x->Wy ref (ref x) c->Wy ref x (x::c)
section
variable{ref:Int->Int}{x y a m:Int}{c d:List Int}
theorem Wy.uniq(h:Wy ref x c):∀{d},Wy ref x d->c=d:=by
 induction h with
 | one h=>
  intro d hd;cases hd with
  | one _=>rfl
  | cons h2 _=>omega
 | cons h _ ih=>
  intro d hd;cases hd with
  | one h2=>omega
  | cons _ h3=>rw[ih h3]
theorem Wy.suf(h:Wy ref x c):y∈c->∃b,Wy ref y (y::b)/\b.length<c.length:=by
 induction h with
 | one h=>intro hy;simp at hy;subst hy;exact⟨[],.one h,by simp⟩
 | @cons x c h h2 ih=>
  intro hy;rcases A1H.1 hy with rfl|hy
  .exact⟨c,.cons h h2,by simp⟩
  obtain⟨b,h3,h4⟩:=ih hy;exact⟨b,h3,by simp;omega⟩
theorem Wy.nodup(h:Wy ref x c):c.Nodup:=by
 induction h with
 | one _=>simp
 | @cons x c h h2 ih=>
  refine A1Z.2 ⟨fun hx=>?_,ih⟩;obtain⟨b,h3,h4⟩:=h2.suf hx;have:=h3.uniq (.cons h h2);simp at this;rw[this] at h4;omega
theorem Wy.rng(hr:∀y,ref y= -1\/(0<=ref y/\ref y<m))(h:Wy ref x c):0<=x->x<m->∀y,y∈c->0<=y/\y<m:=by
 induction h with
 | one _=>intro h0 h1 y hy;simp at hy;subst hy;exact⟨h0,h1⟩
 | @cons x c h h2 ih=>
  intro h0 h1 y hy;rcases A1H.1 hy with rfl|hy
  .exact⟨h0,h1⟩
  exact ih h (by rcases hr x with e|e<;>omega) y hy
theorem Oj{c:List Int}{k:Nat}(hn:c.Nodup)(hr:∀y,y∈c->0<=y/\y<k):c.length<=k:=by
 have:=E2 (a:=c) (b:=(List.range k).map fun(x:Nat)=>(x:Int)) hn fun y hy=>by
  have:=hr y hy;exact A1G.2 ⟨y.toNat,A1r.2 (by omega),by omega⟩
 simpa using this
theorem Wy.len{k:Nat}(hr:∀y,ref y= -1\/(0<=ref y/\ref y<k))(h:Wy ref x c)(h0:0<=x)(h1:x<k):c.length<=k:=Oj h.nodup (h.rng hr h0 h1)
theorem Wy.cut(h:Wy ref x c):∃d,Wy (HO ref a (-1)) x d:=by
 induction h with
 | @one x h=>
  refine⟨[x],.one ?_⟩;unfold HO;split<;>simp_all
 | @cons x c h h2 ih=>
  by_cases e:x=a
  .exact⟨[x],.one (by rw[e];exact Dr)⟩
  obtain⟨d,hd⟩:=ih;have e2:=Dq (f:=ref) (b:= -1) e;exact⟨x::d,.cons (by rw[e2];exact h) (by rw[e2];exact hd)⟩
def OK(ref:Int->Int)(m:Int):Prop:=(∀y,ref y= -1\/(0<=ref y/\ref y<m))/\∀x,0<=x->x<m->∃c,Wy ref x c
theorem OK.cut(h:OK ref m):OK (HO ref a (-1)) m:=by
 refine⟨fun y=>?_,fun x h0 h1=>?_⟩
 .unfold HO;split
  .exact .inl rfl
  exact h.1 y
 obtain⟨c,hc⟩:=h.2 x h0 h1;exact hc.cut
theorem OL.wy{r:Int}(h:OL ref x r)(hr:ref r= -1):∃c,Wy ref x c:=by
 induction h with
 | @refl x=>exact⟨[x],.one hr⟩
 | step h1 _ ih=>
  obtain⟨c,hc⟩:=ih hr;exact⟨_,.cons h1 hc⟩
theorem HM.refok{es:List Pr}{pa oi:Int->Int}{U:Int->Prop}(h:HM (FL es pa oi) U ref es.length):OK ref es.length:=by
 refine⟨fun y=>?_,fun x h0 h1=>?_⟩
 .rcases h.2.1 y with e|e
  .exact .inl e
  right;have e1:=e.1.1.1.1;have e2:=e.1.1.1.2;have e3:=e.2;omega
 obtain⟨r,h2,h3⟩:=h.1 x h0 h1;exact h2.wy h3
end
end
theorem M0{w0 w:World}{K:List Nat}{F:List Chunk}{a:List Pr}{x y:Int}{gw cap:Nat}{sp:List Value}(h1:a.length+1<=cap)(h2:cap<=9223372036854775807)(h3:(Cj (a++[(x,y)])).length+sp.length=cap*2)
 (hw:AR w0 K w (AC gw 129 (Cj (a++[(x,y)])++sp).toArray::F)):AR w0 K w (Bf (.slice (So gw) (a.length+1) cap) 129 2 (Cj (a++[(x,y)]))::F):=
 Ca (by simp) (by decide) h1 h2 (by simpa using h3) (by
  have:(Cj (a++[(x,y)])).length=(a.length+1)*2:=by simp
  rw[<-this];exact A2T) hw
theorem pop_lk{w0 w:World}{K:List Nat}{F:List Chunk}{a:List Pr}{x y:Int}{gw cap:Nat}{sp:List Value}(h1:a.length+1<=cap)(h2:cap<=9223372036854775807)(h3:(Cj (a++[(x,y)])).length+sp.length=cap*2)
 (hw:AR w0 K w (AC gw 129 (Cj (a++[(x,y)])++sp).toArray::F)):AR w0 K w (Bf (.slice (So gw) a.length cap) 129 2 (Cj a)::F):=
 Ca (by simp) (by decide) (by omega) h2 (by simpa using h3) (by
  have:(Cj a).length=a.length*2:=by simp
  rw[<-this,Dc,A1L];exact A2T) hw
theorem own_lk{w0 w:World}{K:List Nat}{F:List Chunk}{g t:Nat}{a b:Value}(hw:AR w0 K w (AC g t #[a,b]::F)):AR w0 K w (Bf (Sv g 1) t 2 [a,b]::F):=
 Ca (by simp) (by decide) (by decide) (by decide) (by simp) rfl hw
def Lb(L:List (Int×Nat)):List Pr:=L.map fun p=>(p.1,(p.2:Int))
theorem Im(a b:List (Int×Nat)):Lb (a++b)=Lb a++Lb b:=A1Y
theorem Il(v:Int)(n:Nat):Lb [(v,n)]=[(v,(n:Int))]:=rfl
@[simp] theorem wyP_length (a:List (Int×Nat)):(Lb a).length=a.length:=A1S ..
structure WlJ where
 vw:Value
 L:List (Int×Nat)
 s:TS
 μ:Nat
section
variable{w:World}{c:TC}{vp:Value}{es:List Pr}{pa he oi lo:List Int}{out:List (List Int)}
theorem OT{Hm r:Int}{s:TS}
 (hO:AR w (AY (TL c s)) w (TL c s))(hD:Dk w (AY (TL c s)) (DtV c es pa he oi lo out))(hn:LnT c es pa he oi lo out)(hs:LnS c s)(hF:CD es (Ae pa) (Ae he) (Ae oi) c.N)(hL:B9 es (Ae pa) (Ae he) (Ae oi) (Ae lo) c.N (DT out))
 (hH:∀v,0<=v->v<c.N->Ae he v<Hm)(r0:0<=r)(r1:r<c.N)(hr:Ae pa r<0)(hst:s.st=[])(hA:HM (FL es (Ae pa) (Ae oi)) (U0 es (Ae pa) (Ae oi) r) (fI s.ref) es.length):
  Calls A1c 24 #[.pointer (some ⟨c.g,0,none⟩),Iv r] w (Ret w (AY (TL c s)) fun r' M=>∃ok s',r'= .bool ok/\M=TL c s'/\LnS c s'/\
   (ok=true->s'.st=[]/\(∃P,Gx es (Ae pa) (Ae he) (Ae oi) c.N (DT out r) P)/\HM (FL es (Ae pa) (Ae oi)) (U0 es (Ae pa) (Ae oi) (r+1)) (fI s'.ref) es.length)/\(ok=false->¬∃s,VM es (Ae pa) (Ae he) (Ae oi) s)):=by
 have hmb:=hn.mb;have hnm:=hn.m;have hnlo:=hn.lo;have hnhe:=hn.he;have hnpa:=hn.pa;have hnoi:=hn.oi;have hN0:=hn.N0;have hN1:=hn.N1;have hno:=hn.out;obtain⟨A0,cp0,hv0,hp0,hpm,hpf,hpx⟩:=EW hD (fun _ h=>h.h0);refine BO (args:=[_,_]) Tryz.func24 J Tryz.ntmps24 J hO<|Zs ?_;refine Za<|Zx<|Zs ?_;refine Zm ?_;refine ZS #[_,_] bs129 ?_;refine ZL #[_,_] A1A NV Xp fun g16=>?_;refine Za<|Zx<|Ai<|As ?_;refine DC.own (fun w hw=>own_lk hw) ?_;refine AS (ι:=WlJ) (fun j=>LnS c j.s/\j.L≠[]/\∃S P,WS es (Ae pa) (Ae he) (Ae oi) (Ae lo) c.N (DT out) Hm r (fI j.s.bot) (fI j.s.low) (fI j.s.ref) j.L S P j.μ j.s.st)
  (fun j=>[(0,.pointer (some ⟨c.g,0,none⟩)),(5,j.vw)])
  (fun j=>Bf j.vw 129 2 (Cj (Lb j.L))::TL c j.s) (fun j=>j.μ) ⟨Sv g16 1,[]++[(r,0)],s,UD es (Ae pa) (Ae he) (Ae oi) (DT out) Hm (DT out r)⟩ ⟨hs,by simp,[],[],by dsimp only;rw[hst];exact Xr r0 r1 hr hA⟩ ⟨J,J,trivial⟩ (.cons' 0 J J (Ay _)) ?_;clear hs hst hA hO;rintro⟨vw,L,⟨vp,st,ref,side,bot,low⟩,μ⟩ ⟨⟨hsr,hss,hsb,hsw,hpm⟩,hne,S,P,hW⟩;dsimp only[TL] at hsr hss hsb hsw hpm hne hW ⊢;obtain⟨l,v,n,rfl⟩:∃l v n,L=l++[(v,n)]:=⟨_,_,_,(A3Q hne).symm⟩;have ht:=hW.1.top hF hL;obtain⟨v0,v1⟩:=ht.1;have hnle:=ht.2.1;have hlen:=NJ.len hF hL hW.1;have hlen2:(l++[(v,n)]).length=l.length+1:=by simp
 have hsl:=ws_len hF hL hW;have hov1:∃lv,out[v.toNat]? =some lv:=⟨_,A1d (by omega)⟩;have hov2:out[v.toNat]? =some (DT out v):=by obtain⟨lv,e⟩:=hov1;unfold DT;rw[e];rfl
 obtain⟨ado,capo,lv,hvo,hoc1,hoc2,hov,Al,capl,rfl,hlc1,hlc2,hlx⟩:=TM hD (fun _ h=>h.ho) hov2;rw[Im,Il];refine DC.open (fun _ h=>absurd (congrArg List.length h) (by simp)) ?_;rintro gw len cw sp rfl hlen3 hlc' hcw hsp;obtain rfl:len=(Lb l).length+1:=by simp at hlen3 ⊢;omega
 refine DC.quads (i:=2) J ?_;rintro A cap rfl hcl1 hcm1 hA1;refine Ai<|Zs<|Zz [3]<|Zx ?_;refine Zd ?_ ?_<;>intro c2
 .refine Ao<|Aa<|As<|Zs<|Zz [4] ?_;refine Zo (Bz (ad':=⟨gw,(Lb l).length*2,none⟩) J J J A1A NV (by omega) (by omega) (by rw[AX,show((((Lb l).length+1:Nat):Int)-1).toNat=(Lb l).length by omega])) ?_;refine Za<|Zx<|Ai ?_;refine Fv 10001000 10 ?_;refine Yz [3] ?_;refine Yh (AK (EB _ _ _ _).1) ?_;refine Yz [3] ?_;refine Yh (AK (EB _ _ _ _).2) ?_;refine Yz [2] ?_;refine AF J ?_;simp only[zq,zr];refine Aa<|Ai<|Zs<|Zz [5] ?_;refine Zu (AG J J Z0 (AK (by unfold IR;rw[hvo];rfl))) ?_;refine Zm ?_;refine Zj (ado.add v.toNat) ?_;refine Zu (AG J J D8 (hov _)) ?_;refine Zz [2]<|Zx ?_;refine Zd ?_ ?_<;>intro c5
  .have hlt:n<(DT out v).length:=by simp at c5;omega
   obtain⟨h,hh⟩:∃h,(DT out v)[n]? =some h:=⟨_,A1d hlt⟩;obtain⟨adl,rfl,hlh⟩:=hlx n h hh;obtain⟨hor,hfr⟩:=(hL.mem v v0 v1 h).1 (A1h hh);have hh0:=hor.1.1;have hh1:=hor.1.2;obtain⟨hf0,ht0,ht1⟩:=hF.rng hor.1;have hoe:Ae oi (h / 2)=h:=hor.2;refine Zs<|Zz [4] ?_;refine Zu (AG J J Z0 (AK (by unfold IR;rw[hvo];rfl))) ?_;refine Zm ?_;refine Zj (ado.add v.toNat) ?_;refine Zu (AG J J D8 (hov _)) ?_;refine Zm ?_;refine Zj (adl.add n) ?_;refine Zu (AG J J CA (hlh _)) ?_;refine Za<|Zx<|Zs ?_;refine Zm ?_;refine Zo (Gi J J J (by omega) (by omega)) ?_;refine Za<|Zx<|Ai ?_;refine Fv 300100001000 12 ?_;refine Yz [3,4,0] ?_;refine Yo J (EC J J Tryz.underlying66) ?_;refine Yj ⟨c.gb,(h / 2).toNat,none⟩ ?_;refine AO J J J J (AP (cs':=(AA (bot.set (h / 2).toNat (st.length:Nat))).toArray) J J J Bw J (by simp;omega) BP) PN ?_;refine AF J ?_;simp only[zq,zr];refine Aa<|Zs<|Zz [2] ?_;refine AL J J (AH en55 J J J (fun w hw=>HS (vp:=.slice A st.length cap) (hw.holds (BK c _) (by simp)) (hD.own hw).hE (hD.own hw).h3 (by omega) (by omega) hnoi (by rw[hoe];omega))) ?_;rintro _ rfl;rw[hoe];obtain⟨ad0,rfl,hpw⟩:=hpx (AD es h) ht0 (by omega);have hlv:(Cj (Lb l++[(v,((n+1:Nat):Int))])).length+sp.length=cw*2:=by simpa using hsp
   refine Zz [5]<|Zx<|Ai<|Zs ?_;refine Zz [4] ?_;refine Zu (AG J J D8 (AK (by unfold IR;rw[hv0];rfl))) ?_;refine Zm ?_;refine Zj (ad0.add (AD es h).toNat) ?_;refine Zu (AG J J CA (hpw _)) ?_;refine Zz [2]<|Zx ?_;refine Zd ?_ ?_<;>intro c10
   .refine Zs<|Zz [2] ?_;refine ZS #[_,_] bs129 ?_;refine ZL #[_,_] A1A NV Xp fun g87=>?_;refine AU J J (SP.shape (Bt (F:=[AC g87 129 #[Iv (AD es h),Iv 0],BK c (.slice A st.length cap),EY (.slice A st.length cap) st,Cf c.gr ref,Cf c.gs side,Cf c.gb (bot.set (h / 2).toNat (st.length:Nat)),Cf c.gl low]) (vs:=Cj (Lb l++[(v,(n:Int))])) (k:=1) (news:=[Iv (AD es h),Iv 0]) J J J A1A NV by129 Xp J (by decide) (by decide)
     (fun w hw=>M0 hlc' hcw hsp (hw.perm (.swap _ _ _))) (.inl ⟨_,_,rfl,AW rfl⟩) rfl (by intro u hu;simp at hu;rcases hu with rfl|rfl<;>rfl) (by rw[prs_length];simp;omega))) ?_;rintro _ _ ⟨⟨A88,l88,c88,rfl⟩,rfl⟩;refine Za<|Zx<|AN<|Ag<|Ag<|Aq ?_;have hT:GP es (Ae pa) (Ae oi) h:=⟨hor,by simpa using c10⟩;obtain⟨μ',hμ,hW'⟩:=A0p hF hL hH hW hh hT;rw[<-CU (by omega) (by omega)] at hW';exact AB ⟨.slice A88 l88 c88,l++[(v,n)]++[(AD es h,0)],⟨.slice A st.length cap,st,ref,side,bot.set (h / 2).toNat (st.length:Nat),low⟩,μ'⟩ hμ ⟨⟨hsr,hss,by simpa using hsb,hsw,hpm⟩,by simp,_,_,hW'⟩ ⟨J,J,trivial⟩
     (.cons' 0 J (by dsimp only;rw[Im,Im,Il,Il];exact congrArg (Bf _ _ _) (Dc (Lb l++[(v,(n:Int))]) [(AD es h,0)]).symm) (BC (BC (BC (BC (BC (BC .nil)))))))
   have hB:DO es (Ae pa) (Ae oi) h:=⟨hor,by simpa using c10⟩;obtain⟨μ',hμ,hpj⟩:=A0q hF hL hW hh hB;rw[<-CU (by omega) (by omega),<-CU (by omega) (by omega)] at hpj;refine Ao<|Aa<|Zs<|Zz [3,2] ?_;refine Zj ⟨c.gl,(h / 2).toNat,none⟩ ?_;refine Zy (AP (cs':=(AA (low.set (h / 2).toNat (h / 2))).toArray) J J J Bw J (by simp;omega) BP)<|Zx<|Ai ?_;refine Fv 300320000110000 15 ?_;refine Yz [4,0] ?_;refine Bp J J J J (A4 (vs:=[_,_]) J J Dp CE J (Da hD (fun _ h=>h.hG) J)) ?_;refine Yz [2] ?_;refine Yo J (Dy (cs:=#[_,_]) J J bs134 J J) ?_;refine Yo J (Dy (cs:=#[_,_,_,_]) J J ZT J J) ?_;refine A8 J J J J (Eo (cs:=#[_,_,_,_]) J J Tryz.underlying66 Eg Gf J (by decide) (by decide) J J) fun g106=>?_;let ca:=AC g106 136 #[Iv (-1),Iv (-1),Iv (h / 2),Iv (h / 2)];let cb:=AC gw 129 (Cj (Lb l++[(v,(n:Int))])++sp).toArray;refine C5 (V:=[ca,cb,BK c (.slice A st.length cap),EY (.slice A st.length cap) st,Cf c.gr ref,Cf c.gs side,Cf c.gb (bot.set (h / 2).toNat (st.length:Nat)),Cf c.gl (low.set (h / 2).toNat (h / 2))]) J J J J J (SP.shape (Bt (F:=[ca,cb,BK c (.slice A st.length cap),Cf c.gr ref,Cf c.gs side,Cf c.gb (bot.set (h / 2).toNat (st.length:Nat)),Cf c.gl (low.set (h / 2).toNat (h / 2))]) (vs:=quads st) (k:=1) (news:=GJ (noI,(h / 2,h / 2))) J J J Tryz.underlying66 Eg ZN Gf J (by decide) (by decide)
    (PK (Et (Bg (Bg (Bg (Bg (Bg (Bg (Bg .nil))))))))) (.inl ⟨_,_,rfl,AW rfl⟩) rfl (by intro u hu;simp[GJ] at hu;rcases hu with rfl|rfl|rfl|rfl<;>rfl) (by rw[quads_length];omega))) (fun v L' hC w hw=>hw.pick (.nil)) ?_;rintro _ _ ⟨⟨A107,l107,c107,rfl⟩,rfl⟩;refine Yz [2] ?_;refine AO J J J J (AP (cs':=IR c (.slice A107 l107 c107)) J J J A0E J (by show 10<15;decide) J) PN ?_;refine AF J ?_;simp only[zq,zr];refine Aa<|Zs<|Zz [3] ?_;refine Zu (AG J J CA (AK (EB _ _ _ _).2)) ?_;refine Zz [3] ?_;refine Zy (AP (cs':=(Cj (Lb l++[(v,((n+1:Nat):Int))])++sp).toArray) J J J Bw J (by simp at hsp ⊢;omega) (Mi _ _ _ _ _))<|Zx<|Ai<|Zs ?_;refine Zz [3] ?_;refine AU J J (D7 en56 J J J (Lc:=TL c ⟨.slice A107 l107 c107,st++[(noI,(h / 2,h / 2))],ref,side,bot.set (h / 2).toNat (st.length:Nat),low.set (h / 2).toNat (h / 2)⟩) (F:=[ca,AC gw 129 (Cj (Lb l++[(v,((n+1:Nat):Int))])++sp).toArray]) (PK (Et (.cons' 0 J (congrArg (Bf _ _ _) (G9 st _).symm) (CY (CY (CY (CY (Bg (Bg .nil))))))))) (fun _ h=>h)
    (fun w hw=>JQ (hw.sub (A1J (TL c ⟨_,_,_,_,_,_⟩) _)).self (hD.sub hw (A1J (TL c ⟨_,_,_,_,_,_⟩) _)) hn ⟨hsr,hss,by simpa using hsb,by simpa using hsw,hpm⟩ hF hL hpj)) ?_;rintro _ _ ⟨_,⟨ok,s',rfl,rfl,hs',q1,q2⟩,rfl⟩;simp only[TL,A1K,A1N];refine Zz [1]<|Zx ?_;refine Zd ?_ ?_<;>intro c15
   .refine Zs<|Za<|Zx<|At<|Ad<|Ad<|Am<|Ad<|Am<|Ad ?_;refine AZ (E':=[(4,_)]) ⟨J,trivial⟩ (Bg (Bg (Bg (Bg (Bg (Bg .nil)))))) ?_;refine Zh ?_;exact⟨false,s',J,J,hs',fun h=>absurd h (by simp),fun _=>q2 (by simpa using c15)⟩
   refine Ao<|Aa<|AN<|Ag<|Aq ?_;obtain⟨S',P',hW'⟩:=q1 (by simpa using c15);refine Dl.own (fun w hw=>M0 hlc' hcw hlv (hw.pick (Jp7 (Ay _)))) ?_;exact AB ⟨_,l++[(v,n+1)],s',μ'⟩ hμ ⟨hs',by simp,_,_,hW'⟩ ⟨J,J,trivial⟩ (.cons' 0 J (by dsimp only;rw[Im,Il]) (Bg (Bg (Bg (Bg (Bg (Bg .nil)))))))
  have hge:(DT out v).length<=n:=by simp at c5;omega
  refine Ao<|Aa<|Zs<|Zz [4] ?_;refine Zo (FY (hi:=l.length) J J ((show _=some (Value.int .i64 ((((Lb l).length+1:Nat):Int)-1)) from J).trans (by rw[wyP_length];congr 2;omega)) A1A NV (by simp at hlc';omega)) ?_;refine Za<|Zx<|Ai<|Zs ?_;refine Zz [3]<|Zx ?_;refine Zd ?_ ?_<;>intro c18
  .refine Zs<|Za<|Zx<|At<|Ad<|Am<|Ad<|Am<|Ad ?_;refine AZ (E':=[(4,_)]) ⟨J,trivial⟩ (BC (BC (BC (BC (BC (BC .nil)))))) ?_;refine Zh ?_;have hl0:l=[]:=by
    cases l with
    | nil=>rfl
    | cons a b=>simp at c18;omega
   subst hl0;obtain⟨rfl,hst0,hP,hA'⟩:=ws_end hF hL hW hge;exact⟨true,⟨_,st,ref,side,bot,low⟩,J,J,⟨hsr,hss,hsb,hsw,hpm⟩,fun _=>⟨hst0,hP,hA'⟩,fun h=>absurd h (by simp)⟩
  have hlne:l≠[]:=fun e=>by subst e;simp at c18
  obtain⟨l2,u,i,rfl,hTp,hfu,⟨u0,u1⟩,hiu,S1,P1,hlv,hLV,hUU,hbk,hne2,μ1,hμ1,hpj⟩:=Xt hF hL hW hge hlne;have hpu0:=hTp.1.1.1;have hpu1:=hTp.1.1.2;rw[Im,Il] at hlc' hsp ⊢;refine DC.own (fun w hw=>pop_lk hlc' hcw hsp hw) ?_;refine DC.open (fun _ h=>absurd (congrArg List.length h) (by simp)) ?_;rintro gw2 len2 cw2 sp2 heq hlen4 hlc2' hcw2 hsp2;cases heq;have hlv2:(Cj (Lb l2++[(u,((i+1:Nat):Int))])).length+sp2.length=cw*2:=by simpa using hsp2
  have hlc4:(Lb l2).length+1<=cw:=by simp at hlc2' ⊢;omega
  have hee:Ae oi (Ae pa v / 2)=Ae pa v:=hTp.1.2;have hnb:¬FL es (Ae pa) (Ae oi) (Ae pa v / 2):=fun h=>by
   unfold FL at h;rw[hee] at h;exact h.1.2 hTp.2
  have hli:=(A1e.1 hiu).1;have hlo2:∃lu,out[u.toNat]? =some lu:=⟨_,A1d (by omega)⟩;have hlo3:(DT out u).length<=9223372036854775806:=by
   obtain⟨lu,e⟩:=hlo2;have e':out[u.toNat]? =some (DT out u):=by unfold DT;rw[e];rfl
   obtain⟨_,_,lv',_,_,_,_,Al',capl',_,g1,g2,g3⟩:=TM hD (fun _ h=>h.ho) e';have:=Oj (k:=es.length*2) (hL.nod u u0 u1) (fun y hy=>by
    have:=((hL.mem u u0 u1 y).1 hy).1.1;exact⟨this.1,by have:=this.2;omega⟩);omega
  refine Ao<|Aa<|Zs<|Zz [4] ?_;refine Zo (Bz (ad':=⟨gw,(Lb l2).length*2,none⟩) J J J A1A NV (by first|(simp;done)|(simp;omega)) (by first|(simp;done)|(simp;omega)) (by rw[AX,show(((l2++[(u,i)]).length:Nat):Int)-1=((Lb l2).length:Nat) by simp,A1g])) ?_;refine Za<|Zx<|Ai ?_;refine Fv 310004000 9 ?_;refine Yz [3] ?_;refine BF.rel0 J J J J (AH en58 J J J (fun w hw=>IO (vp:=.slice A st.length cap) (hw.holds (BK c _) (by simp)) (hD.own hw).h0 v0 (by omega) (by omega))) ?_;rintro _ rfl;rw[if_neg (by omega)];refine Yz [3] ?_;refine Yh (AK (EB _ _ _ _).1) ?_;refine BF.gen0 J J J J (D7 en57 J J J (Lc:=[BK c (.slice A st.length cap),EY (.slice A st.length cap) st,Cf c.gr ref,Cf c.gs side]) (F:=[AC gw 129 (Cj (Lb l2++[(u,(i:Int))])++sp2).toArray,Cf c.gb bot,Cf c.gl low]) (PK (BC (BC (BC (BC (Bg (Bg (Bg .nil)))))))) (fun _ h=>h)
   (fun w hw=>NA (hw.sub (A1J [BK c _,EY _ _,Cf c.gr _,Cf c.gs _] _)).self (hD.sub hw (A1J [BK c _,EY _ _,Cf c.gr _,Cf c.gs _] _)) hn hsr hss hpm hF hL hlv hLV hUU hbk hne2 (by omega) (by omega) hnb (.inl hnb) u0 u1)) (fun v L' hC w hw=>hw.pick (.nil)) ?_;rintro _ _ ⟨_,⟨rfl,vp',st',ref',side',rfl,hm',hs',hP',hSta,hAc⟩,rfl⟩;simp only[zs];have hpj':=hpj _ _ hSta hAc;refine AF J ?_;simp only[zq,zr];refine Aa<|Zs<|Zz [3] ?_;refine Zu (AG J J CA (AK (EB _ _ _ _).2)) ?_;refine Zz [3] ?_;refine Zy (AP (cs':=(Cj (Lb l2++[(u,((i+1:Nat):Int))])++sp2).toArray) J J J Bw J (by simp at hsp2 ⊢;omega) (Mi _ _ _ _ _))<|Zx<|Ai ?_;refine Fv 30100010000 12 ?_;refine Yz [4] ?_;refine Yh (AK (EB _ _ _ _).1) ?_;refine Yz [3] ?_;refine Yh (AK (EB _ _ _ _).2) ?_;refine Yz [1] ?_;refine BF.gen0 J J J J (D7 en56 J J J (Lc:=TL c ⟨vp',st',ref',side',bot,low⟩) (F:=[AC gw 129 (Cj (Lb l2++[(u,((i+1:Nat):Int))])++sp2).toArray]) (PK (Bg (Bg (Bg (Bg (BC (BC (Bg .nil)))))))) (fun _ h=>h)
   (fun w hw=>by rw[show(((i+1:Nat):Int)-1)=(i:Int) by omega];exact JQ (hw.sub (A1J (TL c ⟨_,_,_,_,_,_⟩) _)).self (hD.sub hw (A1J (TL c ⟨_,_,_,_,_,_⟩) _)) hn ⟨hm',hs',hsb,hsw,hP'⟩ hF hL hpj')) (fun v L' hC w hw=>hw.pick (.nil)) ?_;rintro _ _ ⟨_,⟨ok,s',rfl,rfl,hs2,q1,q2⟩,rfl⟩;simp only[TL,A1K,A1N];refine Yz [1] ?_;refine AF J ?_;simp only[zq,zr];refine Aa ?_;refine Zd ?_ ?_<;>intro c23
  .refine Zs<|Za<|Zx<|At<|Am<|Ad<|Am<|Ad ?_;refine AZ (E':=[(4,_)]) ⟨J,trivial⟩ (Bg (Bg (Bg (Bg (Bg (Bg .nil)))))) ?_;refine Zh ?_;exact⟨false,s',J,J,hs2,fun h=>absurd h (by simp),fun _=>q2 (by simpa using c23)⟩
  refine Ao<|An ?_;obtain⟨S',P',hW'⟩:=q1 (by simpa using c23);refine Dl.own (fun w hw=>M0 hlc4 hcw hlv2 (hw.pick (W6 (Ay _)))) ?_;exact AB ⟨.slice (So gw) (l2++[(u,i)]).length cw,l2++[(u,i+1)],s',μ1⟩ hμ1 ⟨hs2,by simp,_,_,hW'⟩ ⟨J,J,trivial⟩ (.cons' 0 J (by dsimp only;rw[Im,Il,show(l2++[(u,i)]).length=(Lb l2).length+1 by simp]) (Bg (Bg (Bg (Bg (Bg (Bg .nil)))))))
 exact absurd c2 (by simp)
end
structure SdTI where
 ps:List Int
 s:TS
 i:Nat
structure ChTJ where
 vc:Value
 pre:List Int
 x:Int
structure SdTJ where
 s:TS
 q:Nat
theorem A0P{xs:List Int}(h:Z7 xs){a b:Int}(ha:a=1\/a= -1)(hb:b=1\/b= -1):a*b=1\/a*b= -1:=by
 rcases ha with rfl|rfl<;>rcases hb with rfl|rfl<;>simp
section
variable{w:World}{c:TC}{vp:Value}{es:List Pr}{pa he oi lo:List Int}{out:List (List Int)}
theorem Nq{s:TS}
 (hO:AR w (AY (TL c s)) w (TL c s))(hD:Dk w (AY (TL c s)) (DtV c es pa he oi lo out))(hn:LnT c es pa he oi lo out)(hs:LnS c s)(hF:CD es (Ae pa) (Ae he) (Ae oi) c.N)(hR:OK (fI s.ref) es.length):
  Calls A1c 25 #[.pointer (some ⟨c.g,0,none⟩)] w (Ret w (AY (TL c s)) fun r' M=>∃v s',r'=v/\M=TL c s'):=by
 have hmb:=hn.mb;have hnm:=hn.m;have hnpa:=hn.pa;have hnoi:=hn.oi;obtain⟨AE,cE,hvE,hrE,hlcE,hcmE,hlE⟩:=hD.here.hE;obtain⟨A0,cp0,hv0,hp0,hpm,hpf,hpx⟩:=EW hD (fun _ h=>h.h0);obtain⟨A3,cp3,hv3,hq0,hqm,hqf,hqx⟩:=EW hD (fun _ h=>h.h3);refine BO (args:=[_]) Tryz.func25 J Tryz.ntmps25 J hO<|Zs ?_;refine Za<|Zx<|Zs ?_;refine Zz [4] ?_;refine Zu (AG J J ag22 (AK (by unfold IR;rw[hvE];rfl))) ?_;refine Zz [1] ?_;refine Zw (B6 (k:=es.length) J J J Tryz.underlying47 Bw Fz C6 J (by omega) (by omega) (BS _)) fun g16=>?_;refine Za<|Zx<|Ai<|Zs ?_;refine Zz [3]<|Zx<|As ?_;refine AS (ι:=SdTI) (fun j=>j.i<=es.length/\j.ps.length=es.length/\LnS c j.s/\OK (fI j.s.ref) es.length)
  (fun j=>[(0,.pointer (some ⟨c.g,0,none⟩)),(3,.slice (some ⟨g16,0,none⟩) es.length es.length),(18,.int .i64 (es.length:Nat)),(19,.int .i64 (j.i:Nat))]) (fun j=>AC g16 3 (AA j.ps).toArray::TL c j.s) (fun j=>es.length-j.i) ⟨_,s,0⟩ ⟨A1E _,by simp,hs,hR⟩ ⟨J,J,J,J,trivial⟩ (.cons 0 J (Ay _)) ?_;rintro⟨ps,⟨vp,st,ref,side,bot,low⟩,i⟩ ⟨hi,hps,⟨hsr,hss,hsb,hsw,hP⟩,hR⟩;dsimp only[TL] at hi hps hsr hss hsb hsw hP hR ⊢;refine Zs<|Zc<|Zx<|Ai ?_;refine Zd ?_ ?_<;>intro c3
 .have hlt:i<es.length:=by simpa using c3
  obtain⟨tot,hW⟩:=hR.2 i (by omega) (by omega);have hrng:=hW.rng hR.1 (by omega) (by omega);have hlen:=hW.len (k:=es.length) hR.1 (by omega) (by omega);refine Ao<|Aa<|Ai<|As<|Zs<|Zz [2]<|Zx<|Zs ?_;refine Za<|Zx ?_;refine DC.cut (ι:=Value) (fun _=>True) (fun vc=>[(0,.pointer (some ⟨c.g,0,none⟩)),(3,.slice (some ⟨g16,0,none⟩) es.length es.length),(4,.int .i64 (i:Nat)),(18,.int .i64 (es.length:Nat)),(19,.int .i64 (i:Nat)),(5,vc)]) (fun vc=>Bf vc 3 1 (AA tot)::AC g16 3 (AA ps).toArray::TL c ⟨vp,st,ref,side,bot,low⟩) ?firstb2 ?restb2
  case firstb2=>
   refine Zs<|Zz [2]<|Zx<|As ?_;refine DC.own (fun w hw=>Ck (t:=3) (m:=1) hw) ?_;refine AS (ι:=ChTJ) (fun j=>∃suf,j.pre++suf=tot/\((suf=[]/\j.x= -1)\/Wy (fI ref) j.x suf)) (fun j=>[(0,.pointer (some ⟨c.g,0,none⟩)),(3,.slice (some ⟨g16,0,none⟩) es.length es.length),(4,.int .i64 (i:Nat)),(18,.int .i64 (es.length:Nat)),(19,.int .i64 (i:Nat)),(5,j.vc),(6,.int .i64 j.x)])
    (fun j=>Bf j.vc 3 1 (AA j.pre)::AC g16 3 (AA ps).toArray::TL c ⟨vp,st,ref,side,bot,low⟩) (fun j=>tot.length-j.pre.length) ⟨.slice none 0 0,[],i⟩ ⟨tot,J,.inr hW⟩ ⟨J,J,J,J,J,J,J,trivial⟩ (Ay _) ?_;rintro⟨vc,pre,x⟩ ⟨suf,hsuf,hx⟩;dsimp only[TL] at hsuf hx ⊢;refine Ai<|Zs<|Zz [2]<|Zx ?_;refine Zd ?_ ?_<;>intro c7
   .have hx7:x≠ -1:=by simpa using c7
    have hW2:Wy (fI ref) x suf:=hx.resolve_left fun h=>hx7 h.2;obtain⟨suf',rfl,hnx⟩:∃suf',suf=x::suf'/\((suf'=[]/\fI ref x= -1)\/Wy (fI ref) (fI ref x) suf'):=by
     cases hW2 with
     | one h=>exact⟨[],rfl,.inl ⟨rfl,h⟩⟩
     | cons h h2=>exact⟨_,rfl,.inr h2⟩
    have hxr:=hrng x (by rw[<-hsuf];simp);have hpl:pre.length<tot.length:=by rw[<-hsuf];simp
    refine Ao<|Aa<|Ai<|As<|Ak<|Zz [2] ?_;refine ZL #[_] A1x Bw C6 fun g34=>?_;refine AU J J (SP.shape (Bt (F:=[AC g34 3 #[.int .i64 x],AC g16 3 (AA ps).toArray,BK c vp,EY vp st,Cf c.gr ref,Cf c.gs side,Cf c.gb bot,Cf c.gl low]) (vs:=AA pre) (k:=1) (news:=[.int .i64 x]) J J J A1x Bw Fz C6 J (by decide) (by decide)
     (fun w hw=>hw.perm (.swap _ _ _)) (.inl ⟨_,_,rfl,AW rfl⟩) rfl (by intro u hu;simp at hu;subst hu;rfl) (by rw[ints_length];omega))) ?_;rintro _ _ ⟨⟨A35,l35,c35,rfl⟩,rfl⟩;refine Za<|Az<|An<|Aa<|Ak ?_;refine Zz [3,1] ?_;refine Zj ⟨c.gr,x.toNat,none⟩ ?_;refine Zu (AG J J CA (AK (Br (Gm hxr.1 (by omega))))) ?_;refine Za<|Az ?_;exact AB ⟨.slice A35 l35 c35,pre++[x],fI ref x⟩ (by simp;omega) ⟨suf',by simpa using hsuf,hnx⟩ ⟨J,J,J,J,J,J,J,trivial⟩ (.cons' 0 J (congrArg (Bf _ _ _) (BW pre [x]).symm) (.cons 1 J (.cons 1 J (.cons 1 J (.cons 1 J (.cons 1 J (.cons 1 J (.cons 1 J .nil))))))))
   refine AN<|Ag<|Ag<|Aq ?_;have:suf=[]:=by
    rcases hx with h|h
    .exact h.1
    have hxm:x∈suf:=by cases h<;>simp
    have:=hrng x (by rw[<-hsuf];simp[hxm]);have h7:x= -1:=by simpa using c7
    omega
   subst this;rw[A1O] at hsuf;subst hsuf;exact Be vc trivial ⟨J,J,J,J,J,J,trivial⟩ (Ay _)
  intro vc _;have htn:tot≠[]:=by cases hW<;>simp
  have htl:0<tot.length:=A2k.2 htn;refine GU 0 J (by omega) ?_;rintro⟨Ac,cc,rfl⟩;refine A0h 0 J ?_;intro hAc;obtain⟨adc,rfl⟩:=hAc (by omega);refine Ai<|Zs<|Zz [4]<|Zx<|As ?_;rw[show((tot.length:Int)-2)=((tot.length-1:Nat):Int)-1 by omega];refine AS (ι:=SdTJ) (fun j=>j.q+1<=tot.length/\LnS c j.s/\OK (fI j.s.ref) es.length) (fun j=>[(0,.pointer (some ⟨c.g,0,none⟩)),(3,.slice (some ⟨g16,0,none⟩) es.length es.length),(4,.int .i64 (i:Nat)),(18,.int .i64 (es.length:Nat)),(19,.int .i64 (i:Nat)),(5,.slice (some adc) tot.length cc),(7,.int .i64 ((j.q:Nat)-1))])
   (fun j=>Bf (.slice (some adc) tot.length cc) 3 1 (AA tot)::AC g16 3 (AA ps).toArray::TL c j.s) (fun j=>j.q) ⟨⟨vp,st,ref,side,bot,low⟩,tot.length-1⟩ ⟨by dsimp only;omega,⟨hsr,hss,hsb,hsw,hP⟩,hR⟩ ⟨J,J,J,J,J,J,J,trivial⟩ (Ay _) ?_;clear hsr hss hsb hsw hP hR hW;rintro⟨⟨vp,st,ref,side,bot,low⟩,q⟩ ⟨hq,⟨hsr,hss,hsb,hsw,hP⟩,hR⟩;dsimp only[TL] at hq hsr hss hsb hsw hP hR ⊢;refine Ai<|Zs<|Zz [2]<|Zx ?_;refine Zd ?_ ?_<;>intro c11
  .obtain⟨q,rfl⟩:∃q',q=q'+1:=⟨q-1,by simp at c11;omega⟩;obtain⟨a,ha⟩:∃a,tot[q]? =some a:=⟨_,A1d (by omega)⟩;obtain⟨b,hb⟩:∃b,tot[q+1]? =some b:=⟨_,A1d (by omega)⟩;have har:=hrng a (A1h ha);have hbr:=hrng b (A1h hb);have hsa:=Gm (l:=side) har.1 (by omega);have hsb':=Gm (l:=side) hbr.1 (by omega);have hmul:=A0P hP (hP _ (A1h hsa)) (hP _ (A1h hsb'));refine Ao<|Aa<|Ai<|As<|Ai ?_;refine Fv 300101000010001010001000 24 ?_;refine Yz [3,2] ?_;refine Yo J (B4 (ad':=adc.add q) J J J A1x Bw (by omega) (by omega) (by rw[show(((q+1:Nat):Int)-1).toNat=q by omega])) ?_;refine Yg ?_ (hh:=by exact(Cv (i:=0) J ha (by omega)));refine Yj ⟨c.gs,a.toNat,none⟩ ?_;refine Yh (AK (Br hsa)) ?_;refine Yz [3,3] ?_;refine Yo J (B4 (ad':=adc.add (q+1)) J J J A1x Bw (by omega) (by omega) (by rw[show(((q+1:Nat):Int)-1+1).toNat=q+1 by omega])) ?_;refine Yg ?_ (hh:=by exact(Cv (i:=0) J hb (by omega)));refine Yj ⟨c.gs,b.toNat,none⟩ ?_;refine Yh (AK (Br hsb')) ?_;refine Yo J (Dz J J J (by omega)) ?_;refine Yj ⟨c.gs,a.toNat,none⟩ ?_;refine AO J J J J (AP (cs':=(AA (side.set a.toNat (fI side a*fI side b))).toArray) J J J Bw J (by simp;omega) BP) (fun w hw=>hw.pick (.nil)) ?_;refine AF J ?_;simp only[zq,zr];refine Aa ?_;refine Fv 3010001000 10 ?_;refine Yz [3,2] ?_;refine Yo J (B4 (ad':=adc.add q) J J J A1x Bw (by omega) (by omega) (by rw[show(((q+1:Nat):Int)-1).toNat=q by omega])) ?_;refine Yg ?_ (hh:=by exact(Cv (i:=0) J ha (by omega)));refine Yj ⟨c.gr,a.toNat,none⟩ ?_;refine AO J J J J (AP (cs':=(AA (ref.set a.toNat (-1))).toArray) J J J Bw J (by simp;omega) BP) (fun w hw=>hw.pick (.nil)) ?_;refine AF J ?_;simp only[zq,zr];refine An<|Aa<|Ak<|Zz [3]<|Az ?_;rw[show(((q+1:Nat):Int)-1-1)=(q:Int)-1 by omega];exact AB ⟨⟨vp,st,ref.set a.toNat (-1),side.set a.toNat (fI side a*fI side b),bot,low⟩,q⟩ (by simp) ⟨by dsimp only;omega,⟨by simpa using hsr,by simpa using hss,hsb,hsw,hP.set hmul⟩,by dsimp only;rw[CU har.1 (by omega)];exact hR.cut⟩ ⟨J,J,J,J,J,J,J,trivial⟩ (Ay _)
  obtain⟨hr1,ht0,ht1⟩:=hF.rng (h:=Ae oi i) (by rcases hF.ori i (by omega) (by omega) with e|e<;>exact⟨by omega,by omega⟩);obtain⟨ad0,rfl,hpw⟩:=hpx (AD es (Ae oi i)) ht0 (by omega);obtain⟨ad3,rfl,hqw⟩:=hqx i (by omega) (by omega);refine AN<|Ag<|Ag<|Aq<|Aa<|Zs<|Zz [2] ?_;refine AL J J (AH en55 J J J (fun w hw=>HS (vp:=vp) (hw.holds (BK c _) (by simp)) (hD.own hw).hE (hD.own hw).h3 (by omega) (by omega) hnoi (hF.ori i (by omega) (by omega)))) ?_;rintro _ rfl;refine Zz [5]<|Zx<|Ai ?_;refine Fv 1001000010010000 17 ?_;refine Yz [4] ?_;refine Yg ?_ (hh:=by exact(AK (by unfold IR;rw[hv0];rfl)));refine Ym ?_;refine Yj (ad0.add (AD es (Ae oi i)).toNat) ?_;refine Yh (hpw _) ?_;refine Yz [4] ?_;refine Yg ?_ (hh:=by exact(AK (by unfold IR;rw[hv3];rfl)));refine Ym ?_;refine Yj (ad3.add i) ?_;refine Yh (hqw _) ?_;refine Yz [1] ?_;refine AF J ?_;simp only[zq,zr];refine Aa ?_;refine Zd ?_ ?_<;>intro c16
  .refine Ak<|Zz [5,1] ?_;refine Zo (B4 (ad':=⟨c.gs,i,none⟩) J J J A1x Bw (by omega) (by omega) (by rw[AX];rfl)) ?_;refine Zu (AG J J CA (AK (Br (Gm (x:=i) (by omega) (by omega))))) ?_;refine Zo (B4 (ad':=⟨g16,i,none⟩) J J J Tryz.underlying47 Bw (by omega) (by omega) (by rw[AX];rfl)) ?_;refine Zy (AP (cs':=(AA (ps.set i (fI side i))).toArray) J J J Bw J (by simp;omega) BP)<|Az<|An<|Aa<|Ak ?_;refine Zz [2]<|Az ?_;exact AB ⟨ps.set i (fI side i),⟨vp,st,ref,side,bot,low⟩,i+1⟩ (by dsimp only;omega) ⟨by dsimp only;omega,by simpa using hps,⟨hsr,hss,hsb,hsw,hP⟩,hR⟩ ⟨J,J,J,J,trivial⟩ (.cons 1 J (.cons 1 J (.cons 1 J (.cons 1 J (.cons 1 J (.cons 1 J (.cons 1 J .nil)))))))
  refine Ao<|An<|Aa<|Ak<|Zz [2]<|Az ?_;exact AB ⟨ps,⟨vp,st,ref,side,bot,low⟩,i+1⟩ (by dsimp only;omega) ⟨by dsimp only;omega,hps,⟨hsr,hss,hsb,hsw,hP⟩,hR⟩ ⟨J,J,J,J,trivial⟩ (.cons 1 J (.cons 1 J (.cons 1 J (.cons 1 J (.cons 1 J (.cons 1 J (.cons 1 J .nil)))))))
 refine AN<|Ag<|Ag<|Aq<|Aa<|Zs<|Zz [2]<|Zx<|At ?_;refine AZ (E':=[(2,_)]) ⟨J,trivial⟩ (.cons 1 J (.cons 1 J (.cons 1 J (.cons 1 J (.cons 1 J (.cons 1 J .nil)))))) ?_;refine Zh ?_;exact⟨_,⟨vp,st,ref,side,bot,low⟩,J,J⟩
end
abbrev FR(rd:Option Nat):Fence:={ Fence.wide with round:=rd }
/-! ### pieces that are no cells -/
def HF(l:Nat)(r:Loop):Chunk:=⟨[l],fun w=>w.heap[l]? =some (.loop r),fun w w' h hh=>(h l (A1m ..)).trans hh⟩
def Jq(g:Nat):Chunk:=⟨[g],fun w=>w.heap[g]? =some (.deferred (some [])),fun w w' h hh=>(h g (A1m ..)).trans hh⟩
def shut(g:Nat):Chunk:=⟨[g],fun w=>w.heap[g]? =some (.deferred none),fun w w' h hh=>(h g (A1m ..)).trans hh⟩
section
variable{w0 w w':World}{K:List Nat}{L F:List Chunk}
theorem AR.allocObj(h:AR w0 K w L)(ob:Obj)(c:Chunk)(hi:c.ids=[w.heap.size])(hh:c.holds (w.alloc ob)):AR w0 K (w.alloc ob) (c::L):=by
 refine h.add (L':=[c]) ⟨rfl,rfl,rfl,Lo.refl _,by simp,fun k hk _=>?_,by simp[hi],fun g hg=>?_,fun g hg=>?_,fun d hd=>?_⟩
 .simp only[World.alloc,A3b];rw[if_neg (by omega)]
 .simp[hi] at hg;subst hg;exact .inr (A1F _)
 .simp[hi] at hg;subst hg;simp
 simp at hd;subst hd;exact hh
theorem AR.putObj{c c':Chunk}{g:Nat}(h:AR w0 K w (c::L))(ob:Obj)(hi:c.ids=[g])(hi':c'.ids=[g])(hh:g<w.heap.size->c'.holds (w.putObj g ob)):AR w0 K (w.putObj g ob) (c'::L):=by
 have hlt:g<w.heap.size:=h.lt g (by simp[hi]);refine AR.frame (Lc:=[c]) (K':=[g]) (L':=[c']) h ⟨rfl,rfl,rfl,Lo.refl _,by simp,fun k hk hn=>?_,by simp[hi'],fun x hx=>?_,fun x hx=>?_,fun d hd=>?_⟩ (fun k hk=>by simp[hi] at hk ⊢;exact hk)
 .simp at hn;exact World.putObj_heap_other hn
 .simp[hi'] at hx;subst hx;exact .inl (by simp)
 .simp[hi'] at hx;subst hx;simpa using hlt
 simp at hd;subst hd;exact hh hlt
theorem AR.loop_put{l:Nat}{r r':Loop}(h:AR w0 K w (HF l r::L)):AR w0 K (w.putObj l (.loop r')) (HF l r'::L):=
 h.putObj _ rfl rfl fun hlt=>World.putObj_heap_same hlt
end
/-! ### pieces named by their places -/
/-! ### operations in a round go as everywhere -/
def Ru(l:List Oper):Bool:=l.all fun o=>match o.op with| .defer _=>false|_=>true
theorem He{l:List Oper}(h:Ru l=true):∀o,o∈l->∀c,o.op≠.defer c:=by
 intro o ho c hc;have:=A2c.1 h o ho;rw[hc] at this;cases this
def NL(Q:Exit->Act->World->Prop):Prop:=∀a w,¬Q .outgrown a w
section
variable{P:Program}{ops:Array Oper}{Q:Exit->Act->World->Prop}{rd:Option Nat}{m:Nat}
theorem KL{f:FuncId}{args:Array Value}{w:World}{R:Ending->World->Prop}(h:Calls P f args w R):CallsIn (FR rd) m P f args w R:=callsIn_wide.2 h
theorem XY{row:String}{args:Array Value}{w:World}{R:Value->World->Prop}(h:Rows P row args w R):RowsIn (FR rd) m P row args w R:=
 fun c cs _=>let⟨v,w',r,s⟩:=h c cs;⟨v,w',r,stepsIn_wide.2 s⟩
theorem A0y{o:Oper}{a:Act}{next next':Act->World->Prop}{r:Result Next}(hn:∀a w,next a w->next' a w)(h:o.upon P a next Q r):o.uponIn (FR rd) m P a next' Q r:=by
 cases r with
 | ok x w'=>
  cases x<;>simp only[Oper.upon,Oper.uponIn] at h ⊢<;>
   first
    | exact hn _ _ h
    | exact⟨fun h=>by simp[Fence.wide] at h,KL (Calls.mono h (fun e w'' he=>by cases e<;>first|exact hn _ _ he|exact he))⟩
    | exact⟨fun h=>by simp[Fence.wide] at h,XY (Rows.mono h (fun _ _ he=>hn _ _ he))⟩
    | exact h.elim
 | halt x w'=>cases x<;>simp only[Oper.upon,Oper.uponIn] at h ⊢<;>exact h
theorem HU{o:Oper}(hd:∀c,o.op≠.defer c)(a:Act):o.semAt rd a.eval=execOp a.eval o:=by
 cases rd with
 | none=>simp[Oper.semAt]
 | some l=>exact Oper.semAt_some l _ _ hd
theorem op_in{o:Oper}{a:Act}{w:World}{next next':Act->World->Prop}(hd:∀c,o.op≠.defer c)(hq:NL Q)(hn:∀a w,next a w->next' a w)(h:o.wp P a w next Q\/(o.asks P a w/\LetsOut Q)):o.wpIn (FR rd) m P a w next' Q:=by
 refine⟨fun _ _=>trivial,?_⟩;rcases h with h|⟨_,a,w,h⟩
 .show o.uponIn (FR rd) m P a next' Q ((o.semAt rd a.eval).run P w);rw[HU hd];exact A0y hn h
 exact absurd h (hq a w)
theorem VP{l:List Oper}(hd:∀o,o∈l->∀c,o.op≠.defer c)(hq:NL Q):∀a w,wpList P ops Q l a w->wpListIn (FR rd) m P ops Q l a w:=by
 induction l with
 | nil=>intro a w h;exact h
 | cons o l ih=>
  intro a w h;have ih':=ih fun o ho=>hd o (A1q _ ho);unfold wpList at h;unfold wpListIn;split
  .rename_i hw;rw[if_pos hw] at h;exact op_in (hd o (A1m ..)) hq ih' h
  rename_i hw;rw[if_neg hw] at h;exact⟨fun _ _=>trivial,ih' _ _ h⟩
theorem Xu(hd:∀o,o∈ops.toList->∀c,o.op≠.defer c)(hq:NL Q):∀(fuel:Nat) (listed:Array Bool) (a:Act) (w:World),wpAny P .any ops Q fuel listed a w->wpAnyIn (FR rd) m P .any ops Q fuel listed a w:=by
 intro fuel
 induction fuel with
 | zero=>intro listed a w h;exact h
 | succ k ih=>
  intro listed a w h;refine⟨h.1,fun i hi=>?_⟩;have h2:=h.2 i hi;unfold wpOp at h2;unfold wpOpIn;split
  .rename_i ho;rw[ho] at h2;exact ih _ _ _ h2
  rename_i o ho;rw[ho] at h2;simp only at h2;have hm:o∈ops.toList:=by
   have:=A1h (l:=ops.toList) (i:=i) (a:=o) (by simpa using ho);exact this
  split
  .rename_i hw;rw[if_pos hw] at h2;exact op_in (hd o hm) hq (ih _) h2
  rename_i hw;rw[if_neg hw] at h2;exact⟨fun _ _=>trivial,ih _ _ _ h2⟩
end
/-! ### statements in a round -/
def DR(rd:Option Nat)(P:Program)(w0:World)(K:List Nat)(n:Nat)(ds:List Deferred)(Q:Exit->Act->World->Prop)(c:Code)(E:Env)(L:List Chunk):Prop:=
 ∀a w,DM n ds E a->AR w0 K w L->c.wpIn (FR rd) 0 P Q a w
section
variable{P:Program}{ops:Array Oper}{w0:World}{K:List Nat}{n:Nat}{ds:List Deferred}{E:Env}{L:List Chunk}{Q:Exit->Act->World->Prop}{rd:Option Nat}
theorem DC.round{c:Code}(h:DR none P w0 K n ds Q c E L):DC P w0 K n ds Q c E L:=fun a w ha hL=>wpIn_wide.1 (h a w ha hL)
theorem DR.seq{x y:Code}(h:DR rd P w0 K n ds (Exit.then (y.wpIn (FR rd) 0 P Q) Q) x E L):DR rd P w0 K n ds Q (.seq x y) E L:=fun a w ha hL=>wpIn_seq (h a w ha hL)
theorem Di{y:Code}(h:DR rd P w0 K n ds Q y E L):Dl w0 K n ds (Exit.then (y.wpIn (FR rd) 0 P Q) Q .normal) E L:=h
theorem DR.region{l:List Oper}{id:Nat}(hd:Ru l=true)(hq:NL Q)(h:CN P l.toArray w0 K n ds Q l E L):DR rd P w0 K n ds Q (.region id l.toArray false) E L:=
 fun a w ha hL=>wpIn_region_lit (VP (He hd) hq a w (h a w ha hL))
theorem DR.flow{id:Nat}{order:List Nat}{cl:List Qy}{A:List Nat}(Lf:List Chunk)(hm:P.follows .mixedOrders=true)(hchk:Hl ops cl A order=true)(hd:Ru ops.toList=true)(hq:NL Q)(hLf:∀w,AR w0 K w L->AR w0 K w Lf)
 (h:BF P ops w0 K n ds Lf cl A (Q .normal) order E L []):DR rd P w0 K n ds Q (.region id ops true) E L:=by
 intro a w ha hw;obtain⟨h1,h2,h3,h4,h5⟩:=JT hchk;have hlt:∀x,x∈order->x<ops.size:=fun x hx=>by
  have:=h3 x hx;unfold Hf at this;split at this
  .rename_i o ho;exact(A1t.1 ho).1
  cases this
 refine wpIn_region_any hm (Xu (He hd) hq _ _ _ _ ?_);have hlen:=IT (IS h4) (fun j=>⟨hlt j,h2 j⟩);refine R6 h1 h5 ops.size order (Array.replicate ops.size false) E L [] hlen h (by simp) (fun j=>⟨fun hj=>⟨hlt j hj,by simp[hlt j hj]⟩,fun hj=>h2 j hj.1⟩) h4 h3 ?_ a _ ha (by simpa using hw.drew) ((hLf w hw).drew);intro z i hz hi hl;simp[hz] at hl
theorem DR.exit{id:Nat}(h:Dl w0 K n ds (Q (.exit id)) E L):DR rd P w0 K n ds Q (.exit id) E L:=fun a w ha hL=>wpIn_exit (h a w ha hL)
theorem DR.skip(h:Dl w0 K n ds (Q .normal) E L):DR rd P w0 K n ds Q .skip E L:=fun a w ha hL=>wpIn_skip (h a w ha hL)
theorem DR.block{id:Nat}{c:Code}(h:DR rd P w0 K n ds (Exit.inBlock id Q) c E L):DR rd P w0 K n ds Q (.block id c) E L:=fun a w ha hL=>wpIn_block (h a w ha hL)
theorem DR.cond{c:Operand}{x y:Code}{b:Bool}(hc:ev n E c=some (.bool b))(h1:b=true->DR rd P w0 K n ds Q x E L)(h2:b=false->DR rd P w0 K n ds Q y E L):
  DR rd P w0 K n ds Q (.cond c x y) E L:=fun a w ha hL=>wpIn_cond_split (ha.ev hc) (fun h=>h1 h a w ha hL) (fun h=>h2 h a w ha hL)
/-! ### operations of a region that calls yield -/
def Ii(rd:Option Nat)(P:Program)(ops:Array Oper)(w0:World)(K:List Nat)(n:Nat)(ds:List Deferred)(Q:Exit->Act->World->Prop)(l:List Oper)(E:Env)(L:List Chunk):Prop:=
 ∀a w,DM n ds E a->AR w0 K w L->wpListIn (FR rd) 0 P ops Q l a w
theorem DR.regionR{l:List Oper}{id:Nat}(h:Ii rd P l.toArray w0 K n ds Q l E L):DR rd P w0 K n ds Q (.region id l.toArray false) E L:=fun a w ha hL=>wpIn_region_lit (h a w ha hL)
theorem DC.regionR{l:List Oper}{id:Nat}(h:Ii none P l.toArray w0 K n ds Q l E L):DC P w0 K n ds Q (.region id l.toArray false) E L:=DC.round (DR.regionR h)
variable{o:Oper}{r:List Oper}{v:Value}{d:Nat}
theorem Ii.nil(h:Dl w0 K n ds (Q .normal) E L):Ii rd P ops w0 K n ds Q [] E L:=h
theorem Ii.pur(hd:o.dst=some d)(hw:want n E ops o=some true)(hdf:Ru [o]=true)(hv:EL P n ds E o v)(h:Ii rd P ops w0 K n ds Q r ((d,v)::E) L):Ii rd P ops w0 K n ds Q (o::r) E L:=by
 intro a w ha hL;unfold wpListIn;rw[if_pos (BV hw ha)];refine⟨fun _ _=>trivial,?_⟩;show o.uponIn (FR rd) 0 P a _ Q ((o.semAt rd a.eval).run P w);rw[HU (He hdf o (by simp)),hv a w ha,Oper.uponIn_value,hd];exact h _ _ (ha.put (some d) v) hL
theorem Ii.yield{x y:Operand}{ts:Array Nat}{l:Nat}{u:Value}{ι:Type}{Inv:ι->Prop}{Ls:ι->List Chunk}{κ:Type}{Inx:κ->Prop}{Lx:κ->List Chunk}(hd:o.dst=some d)(hw:want n E ops o=some true)(ho:o.op= .call ⟨.value x,#[y],ts⟩)
 (hx:ev n E x=some (.func (.yield l) #[] #[]))(hy:ev n E y=some u)
 (hY:∀w,AR w0 K w L->YieldAt Fence.wide 0 P l #[u] w fun e w'=>(e= .returned (.bool true)/\∃j,Inv j/\AR w0 K w' (Ls j))\/(e= .returned (.bool false)/\∃j,Inx j/\AR w0 K w' (Lx j)))
 (h1:∀j,Inv j->Ii rd P ops w0 K n ds Q r ((d,.bool true)::E) (Ls j))(h2:∀j,Inx j->Ii rd P ops w0 K n ds Q r ((d,.bool false)::E) (Lx j)):Ii rd P ops w0 K n ds Q (o::r) E L:=by
 intro a w ha hL;unfold wpListIn;rw[if_pos (BV hw ha)];refine⟨fun _ _=>trivial,?_⟩;show o.uponIn (FR rd) 0 P a _ Q ((o.semAt rd a.eval).run P w);rw[HU (fun c hc=>by rw[ho] at hc;cases hc)];obtain⟨fn,tmps,assign,body,hy1,hR⟩:=hY w hL;have hrun:(execOp a.eval o).run P w= .ok (.round l fn tmps assign body) w:=by
  simp only[execOp,ho,resolve,ha.ev hx];simp[Deferred.ofValue,invoke,ha.ev hy,hy1]
 rw[hrun,Oper.uponIn_round];refine⟨fun h=>by simp[Fence.wide] at h,?_⟩;have hR':RoundIn (FR rd) (0-1) P l fn tmps assign body w fun e w'=>(e= .returned (.bool true)/\∃j,Inv j/\AR w0 K w' (Ls j))\/(e= .returned (.bool false)/\∃j,Inx j/\AR w0 K w' (Lx j)):=hR;refine hR'.mono ?_;rintro e w' (⟨rfl,j,hj,hO⟩|⟨rfl,j,hj,hO⟩)
 .rw[hd];exact h1 j hj _ _ (ha.put (some d) _) hO
 rw[hd];exact h2 j hj _ _ (ha.put (some d) _) hO
end
section
variable{P:Program}{ops:Array Oper}{w0:World}{K:List Nat}{n:Nat}{ds:List Deferred}{E:Env}{L:List Chunk}{Q:Exit->Act->World->Prop}{rd:Option Nat}{o:Oper}{r:List Oper}{d:Nat}
theorem SL{x y:Operand}{ts:Array Nat}{l:Nat}{u:Value}{ι:Type}{Inv:ι->Prop}{Ls:ι->List Chunk}{κ:Type}{Inx:κ->Prop}{Lx:κ->List Chunk}(hd:o.dst=some d)(hw:want n E ops o=some true)(ho:o.op= .call ⟨.value x,#[y],ts⟩)
 (hx:ev n E x=some (.func (.yield l) #[] #[]))(hy:ev n E y=some u)
 (hY:∀w,AR w0 K w L->YieldAt Fence.wide 0 P l #[u] w fun e w'=>(e= .returned (.bool true)/\∃j,Inv j/\AR w0 K w' (Ls j))\/(e= .returned (.bool false)/\∃j,Inx j/\AR w0 K w' (Lx j)))
 (h:∀s:ι ⊕ κ,Sum.elim Inv Inx s->Ii rd P ops w0 K n ds Q r ((d,.bool s.isLeft)::E) (Sum.elim Ls Lx s)):Ii rd P ops w0 K n ds Q (o::r) E L:=
 Ii.yield hd hw ho hx hy hY (fun j hj=>h (.inl j) hj) (fun j hj=>h (.inr j) hj)
theorem IG{fn:Func}{R:Ending->World->Prop}{e:Exit}(he:e= .ret\/e= .normal)(hr:fn.results=#[])(h:∀w,AR w0 K w L->R (.returned (.tuple #[])) w):Dl w0 K n [] (bodyPost P fn R e) E L:=by
 intro a w ha hO;have h1:a.defers=[]/\∃v,(results fn a.tmps).run P w= .ok v w/\R (.returned v) w:=⟨ha.defers,_,results_none hr _ _ _,h w hO⟩;rcases he with rfl|rfl<;>exact h1
end
section
variable{P:Program}{w0:World}{K:List Nat}{n:Nat}{ds:List Deferred}{E:Env}{L F:List Chunk}{o:Oper}
theorem Uz{t m:Nat}{vs:List Value}(h:SP P w0 K n ds E L o (fun v' M=>M=Bf v' t m vs::F)):SP P w0 K n ds E L o (fun v' M=>(∃A l c,v'= .slice A l c/\vs.length=l*m)/\M=Bf v' t m vs::F):=by
 intro a w ha hw;refine(h a w ha hw).mono ?_;rintro v w' ⟨L',rfl,hO⟩;obtain⟨A,len,cap,e,h1,_⟩:=Ft hO;exact⟨_,⟨⟨A,len,cap,e,h1⟩,rfl⟩,hO⟩
end
/-! ### an iterator -/
def Iter(P:Program)(gf:FuncId)(lb:Array Value)(xs:List Value)(Rdy:World->Prop):Prop:=
 ∀(l:Nat) (w0:World) (K:List Nat) (ι:Type) (Inv:Nat->ι->Prop) (Ls:ι->List Chunk) (κ:Type) (Inx:κ->Prop) (Lx:κ->List Chunk),
  (∀k j w,Inv k j->AR w0 K w (Ls j)->Rdy w)->
  (∀k j w x,xs[k]? =some x->Inv k j->AR w0 K w (Ls j)->YieldAt Fence.wide 0 P l #[x] w fun e w'=>
   (e= .returned (.bool true)/\∃j',Inv (k+1) j'/\AR w0 K w' (Ls j'))\/(e= .returned (.bool false)/\∃j',Inx j'/\AR w0 K w' (Lx j')))->
  ∀j w,Inv 0 j->AR w0 K w (Ls j)->Calls P gf (#[.func (.yield l) #[] #[]]++lb) w fun e w'=>
   (∃v,e= .returned v)/\((∃j',Inv xs.length j'/\AR w0 K w' (Ls j'))\/(∃j',Inx j'/\AR w0 K w' (Lx j')))
/-! ### the statement -/
def A0l:Option Nat->Code
 | none=>.ret
 | some id=>.exit id
def jex:Option Nat->Exit
 | none=>.ret
 | some id=>.exit id
def Mb(w0:World)(K:List Nat)(l:Nat)(r:Loop)(Mk:List Chunk){ι κ:Type}(Inv:ι->Prop)(Ls:ι->List Chunk)(Inx:Option Nat->κ->Prop)(Lx:κ->List Chunk):Exit->Act->World->Prop
 | .normal,_,w=>∃j,Inv j/\AR w0 K w (HF l r::(Mk++Ls j))
 | .ret,_,w=>∃j,Inx none j/\AR w0 K w (HF l r::(Mk++Lx j))
 | .exit id,_,w=>∃j,Inx (some id) j/\AR w0 K w (HF l r::(Mk++Lx j))
 | _,_,_=>False
def ZX(P:Program)(w0:World)(K:List Nat)(n:Nat)(l:Nat)(r r':Loop)(Q:Exit->Act->World->Prop)(body:Code)(a:Act)(w:World):Prop:=
 ∃E' L',DM n [] E' a/\AR w0 K w (HF l r::L')/\DR (some l) P w0 K n [] Q body E' (HF l r'::L')
def noQ:Exit->Act->World->Prop:=fun _ _ _=>False
section
variable{P:Program}{w0:World}{K:List Nat}{n:Nat}{ds:List Deferred}{E:Env}{L:List Chunk}{Q:Exit->Act->World->Prop}{rd:Option Nat}{ι κ:Type}{l:Nat}{r r':Loop}{Mk:List Chunk}
theorem SS{body:Code}{L':List Chunk}(h:DR (some l) P w0 K n [] Q body E (HF l r'::L')):Dl w0 K n [] (Exit.then (ZX P w0 K n l r r' Q body) noQ .normal) E (HF l r::L'):=
 fun a w ha hO=>⟨E,L',ha,hO,h⟩
theorem Dl.round{Inv:ι->Prop}{Ls:ι->List Chunk}{Inx:Option Nat->κ->Prop}{Lx:κ->List Chunk}(j:ι)(hj:Inv j)(hL:Dd L (HF l r::(Mk++Ls j))):Dl w0 K n ds (Mb w0 K l r Mk Inv Ls Inx Lx .normal) E L:=
 fun a w ha hO=>⟨j,hj,hO.pick hL⟩
def Nz(D:Nat):Deferred:={ target:=.collected D,args:=#[] }
theorem QU{gf:FuncId}{g:Operand}{lb:Array Value}{a:Act}{w:World}(hent:BY P gf)(hg:a.eval g= .func (.func gf) #[] lb)(l:Nat):
  (resolve a.eval (rangeCall g l) 0).run P w= .ok { target:=.fn (.func gf) lb,args:=#[.func (.yield l) #[] #[]] } w/\
  (invoke (.fn (.func gf) lb) #[.func (.yield l) #[] #[]]).run P w= .ok (.enter gf (#[.func (.yield l) #[] #[]]++lb)) w:=by
 obtain⟨fn,h1,h2,h3⟩:=hent.go;have h4:¬fn.name = "runtime.NumGoroutine" := by simpa using h2
 have h5:¬fn.body=none:=fun e=>by rw[e] at h3;cases h3
 constructor
 .simp only[resolve,hg];simp[go_sem]
 simp[invoke,callFunc,h1,h4,h5]
theorem QX{body assign:Code}{t:Tmp}{x:Value}{fnn:FuncId}{a:Act}(hr:r={ state:=.ready,pending:=none,fn:=fnn,tmps:=a.tmps,params:=#[t],assign,body,defers:=r.defers })
 {Inv:Nat->ι->Prop}{Ls:ι->List Chunk}{Inx:Option Nat->κ->Prop}{Lx:κ->List Chunk}{k:Nat}{j:ι}(ha:DM n ds E a)(hinv:Inv k j)
 (hbody:DR (some l) P w0 K n [] (Exit.then (ZX P w0 K n l r { r with state:=.busy } (Mb w0 K l { r with state:=.busy } Mk (Inv (k+1)) Ls Inx Lx) body) noQ) assign ((t,x)::E) (HF l r::(Mk++Ls j)))
 {w:World}(hO:AR w0 K w (HF l r::(Mk++Ls j))):
  YieldAt Fence.wide 0 P l #[x] w fun e w'=>
   (e= .returned (.bool true)/\∃j',Inv (k+1) j'/\AR w0 K w' (HF l r::(Mk++Ls j')))\/
   (e= .returned (.bool false)/\∃p:Option Nat×κ,Inx p.1 p.2/\AR w0 K w' (HF l { r with state:=.done,pending:=some (A0l p.1) }::(Mk++Lx p.2))):=by
 have hl:w.heap[l]? =some (.loop r):=hO.holds _ (A1m ..);have hps:r.params=#[t]:=by rw[hr]
 have hfn:r.fn=fnn:=by rw[hr]
 have has:r.assign=assign:=by rw[hr]
 have hbd:r.body=body:=by rw[hr]
 have htm:r.tmps=a.tmps:=by rw[hr]
 have hst:r.state= .ready:=by rw[hr]
 have hpe:r.pending=none:=by rw[hr]
 have hy:=run_yield (P:=P) (args:=#[x]) hl (by rw[hps];rfl);rw[hps,hfn,has,hbd,htm] at hy;refine⟨fnn,_,assign,body,hy,roundIn_of_wpIn (F:=Fence.wide) trivial ?_⟩;have hsat:DM n [] ((t,x)::E) { tmps:=((#[t]:Array Tmp).zip #[x]).foldl (fun tmps (p:Tmp×Value)=>tmps.setIfInBounds p.1 p.2) a.tmps,defers:=[] }:=by
  have h0:DM n [] E { tmps:=a.tmps,defers:=[] }:=⟨ha.size,rfl,ha.has⟩;have:=h0.put (some t) x;simpa [Act.put,Env.put] using this
 refine wpIn_mono (hbody _ w hsat hO) ?_;intro e a1 w1 hq;cases e with
 | normal=>
  obtain⟨E',L',hs',hO',hD⟩:=hq;have hl1:w1.heap[l]? =some (.loop r):=hO'.holds _ (A1m ..);refine⟨_,run_beginRound hl1 hst,?_⟩;have hO2:AR w0 K (w1.putObj l (.loop { r with state:=.busy })) (HF l { r with state:=.busy }::L'):=hO'.loop_put;refine wpIn_mono (hD a1 _ hs' hO2) ?_;have fin:∀(jump:Option Code) (w3:World) (M:List Chunk),AR w0 K w3 (HF l { r with state:=.busy }::M)->
    (Instr.endRound l jump).run P w3= .ok (.bool jump.isNone) (w3.putObj l (.loop { r with state:=if jump.isNone then .ready else .done,pending:=jump }))/\
    AR w0 K (w3.putObj l (.loop { r with state:=if jump.isNone then .ready else .done,pending:=jump })) (HF l { r with state:=if jump.isNone then .ready else .done,pending:=jump }::M):=fun jump w3 M h3=>
   ⟨run_endRound (r:={ r with state:=.busy }) jump (h3.holds _ (A1m ..)),h3.loop_put⟩;intro e a3 w3 hp;cases e with
  | normal=>
   obtain⟨j',hj',h3⟩:=hp;obtain⟨f1,f2⟩:=fin none w3 _ h3;refine⟨_,_,f1,.inl ⟨rfl,j',hj',?_⟩⟩;have e:({ r with state:=if(none:Option Code).isNone then .ready else .done,pending:=none }:Loop)=r:=by
    rw[hr];rfl
   rw[e] at f2 ⊢;exact f2
  | ret=>
   obtain⟨j',hj',h3⟩:=hp;obtain⟨f1,f2⟩:=fin (some .ret) w3 _ h3;exact⟨_,_,f1,.inr ⟨rfl,(none,j'),hj',f2⟩⟩
  | exit id=>
   obtain⟨j',hj',h3⟩:=hp;obtain⟨f1,f2⟩:=fin (some (.exit id)) w3 _ h3;exact⟨_,_,f1,.inr ⟨rfl,(some id,j'),hj',f2⟩⟩
  | goto t=>exact hp.elim
  | panic ch=>exact hp.elim
  | outgrown=>exact hp.elim
 | exit id=>exact hq.elim
 | goto t=>exact hq.elim
 | ret=>exact hq.elim
 | panic ch=>exact hq.elim
 | outgrown=>exact hq.elim
theorem F0{w:World}{c:Chunk}(h:AR w0 K w (c::L)):AR w0 K w L:=h.sub (A1k ..)
theorem Oe{w:World}{M:List Chunk}(h:AR w0 K w (M++L)):AR w0 K w L:=h.sub (A2M ..)
theorem DC.range{g:Operand}{t:Tmp}{assign body:Code}{gf:FuncId}{lb:Array Value}{xs:List Value}{Rdy:World->Prop}(Inv:Nat->ι->Prop)(Ls:ι->List Chunk)(Inx:Option Nat->κ->Prop)(Lx:κ->List Chunk)(j0:ι)
 (hg:ev n E g=some (.func (.func gf) #[] lb))(hent:BY P gf)(hit:Iter P gf lb xs Rdy)(hrdy:∀k j w,Inv k j->AR w0 K w (Ls j)->Rdy w)(h0:Inv 0 j0)(hL:Dd L (Ls j0))
 (hbody:∀l r r' D k j x,xs[k]? =some x->Inv k j->DR (some l) P w0 K n [] (Exit.then (ZX P w0 K n l r r' (Mb w0 K l r' [Jq D] (Inv (k+1)) Ls Inx Lx) body) noQ) assign ((t,x)::E) (HF l r::([Jq D]++Ls j)))
 (hdone:∀D j,Inv xs.length j->Dl w0 K n (Nz D::ds) (Q .normal) E (Jq D::Ls j))
 (hstop:∀D c j,Inx c j->Dl w0 K n (Nz D::ds) (Q (jex c)) E (Jq D::Lx j)):DC P w0 K n ds Q (.rangeFunc g #[t] assign body) E L:=by
 refine DC.round fun a w ha hO=>?_;refine wpIn_rangeFunc ?_;intro fnn _;obtain⟨rec,hrec⟩:∃rec:Loop,rec={ state:=.ready,pending:=none,fn:=fnn,tmps:=a.tmps,params:=#[t],assign,body,defers:=w.heap.size }:=⟨_,rfl⟩;have hent':=run_enterLoop_outer (P:=P) (w:=w) fnn a.tmps #[t] assign body;rw[<-hrec] at hent';obtain⟨h1,h2⟩:=QU (P:=P) (w:=(w.alloc (.deferred (some []))).alloc (.loop rec)) hent (ha.ev hg) (w.heap.size+1);refine⟨w.heap.size+1,[Nz w.heap.size],_,_,_,gf,_,_,hent',h1,fun _ _=>trivial,h2,fun h=>by simp[Fence.wide] at h,?_⟩;have hO1:AR w0 K ((w.alloc (.deferred (some []))).alloc (.loop rec)) (HF (w.heap.size+1) rec::([Jq w.heap.size]++Ls j0)):=by
  have o1:AR w0 K (w.alloc (.deferred (some []))) (Jq w.heap.size::Ls j0):=(hO.pick hL).allocObj _ _ rfl (World.alloc_heap_new w _);have o2:=o1.allocObj (.loop rec) (HF (w.heap.size+1) rec) (by simp[HF]) (by
   have:=World.alloc_heap_new (w.alloc (.deferred (some []))) (.loop rec);rwa [World.size_alloc] at this);exact o2
 refine(KL (Calls.mono (hit (w.heap.size+1) w0 K ι Inv (fun j=>HF (w.heap.size+1) rec::([Jq w.heap.size]++Ls j)) (Option Nat×κ) (fun p=>Inx p.1 p.2)
  (fun p=>HF (w.heap.size+1) { rec with state:=.done,pending:=some (A0l p.1) }::([Jq w.heap.size]++Lx p.2)) (fun k j w' hj ho=>hrdy k j w' hj (Oe (F0 ho))) ?_ j0 _ h0 hO1) ?_))
 .intro k j w' x hx hj ho;exact QX (by subst hrec;rfl) ha hj (hbody _ _ _ _ k j x hx hj) ho
 rintro e w' ⟨⟨v,rfl⟩,(⟨j,hj,ho⟩|⟨⟨c,j⟩,hj,ho⟩)⟩
 .refine⟨none,_,by have:=run_endLoop (P:=P) (r:=rec) (ho.holds _ (A1m ..)) (by rw[hrec];simp);rw[show rec.pending=none by rw[hrec]] at this;exact this,?_⟩;exact hdone _ j hj _ _ ⟨ha.size,by simp[ha.defers],ha.has⟩ (F0 (ho.loop_put (r':={ rec with state:=.exhausted,pending:=none })))
 refine⟨some (A0l c),_,run_endLoop (P:=P) (r:={ rec with state:=.done,pending:=some (A0l c) }) (ho.holds _ (A1m ..)) (by simp),?_⟩;have hf:=hstop w.heap.size c j hj { a with defers:=[Nz w.heap.size]++a.defers } _ ⟨ha.size,by simp[ha.defers],ha.has⟩ (F0 (ho.loop_put (r':={ { rec with state:=.done,pending:=some (A0l c) } with state:=.exhausted })));cases c with
 | none=>exact wpIn_ret hf
 | some id=>exact wpIn_exit hf
/-! ### joins where marks may have come -/
def MetD(w0:World)(K:List Nat)(n:Nat){ι:Type}(Inv:ι->Prop)(Ds:ι->List Deferred)(Es:ι->Env)(Ls:ι->List Chunk)(a:Act)(w:World):Prop:=∃j,Inv j/\DM n (Ds j) (Es j) a/\AR w0 K w (Ls j)
theorem DC.cutD{ι:Type}(Inv:ι->Prop)(Ds:ι->List Deferred)(Es:ι->Env)(Lc:ι->List Chunk){xc yc:Code}(first:DC P w0 K n ds (Exit.then (MetD w0 K n Inv Ds Es Lc) Q) xc E L)
 (rest:∀i,Inv i->DC P w0 K n (Ds i) Q yc (Es i) (Lc i)):DC P w0 K n ds Q (.seq xc yc) E L:=by
 refine Ai fun a w ha hw=>wp_mono (first a w ha hw) ?_;intro e a w h;cases e with
 | normal=>obtain⟨j,hj,hs,ho⟩:=h;exact rest j hj a w hs ho
 | exit id=>exact h
 | goto l=>exact h
 | ret=>exact h
 | panic ch=>exact h
 | outgrown=>exact h
theorem Xa{ι:Type}{Inv:ι->Prop}{Ds:ι->List Deferred}{Es:ι->Env}{Lc:ι->List Chunk}(j:ι)(hj:Inv j)(hd:Ds j=ds)(hE:Sub E (Es j))(hL:Dd L (Lc j)):Dl w0 K n ds (Exit.then (MetD w0 K n Inv Ds Es Lc) Q .normal) E L:=
 fun a w ha hO=>⟨j,hj,hd▸ha.mono hE.get,hO.pick hL⟩
/-! ### a function that holds such loops -/
theorem OH{f:FuncId}{fn:Func}{c:Code}{args:List Value}{R:Ending->World->Prop}{w:World}{L:List Chunk}(hf:P.funcs[f]? =some fn)(hb:fn.body=some c)
 (hn:fn.ntmps=n)(hle:Nat.ble args.length n=true)(hO:AR w0 K w L)(h:DC P w0 K n [] (bodyPostM Fence.wide 0 P fn R) c (EJ 0 args) L):Calls P f args.toArray w R:=by
 refine(callsIn_wide (n:=0)).1 (callsIn_of_wp_marks (F:=Fence.wide) hf hb trivial (wpIn_wide.2 (h _ _ ⟨?_,rfl,fun t v hv ht=>?_⟩ hO)))
 .have:=A1f hle;simp[hn];omega
 obtain⟨_,h2⟩:=Er args 0 t v hv;simp only[A2R] at h2;have hlt:t<args.length:=(A1e.1 h2).1;simp[A3r,hlt];simpa [A1d hlt] using h2
theorem OG{f:FuncId}{fn:Func}{c:Code}{args:List Value}{R:Ending->World->Prop}{w:World}{L:List Chunk}(hf:P.funcs[f]? =some fn)(hb:fn.body=some c)
 (hn:fn.ntmps=n)(hle:Nat.ble args.length n=true)(hO:AR w0 K w L)(h:DC P w0 K n [] (bodyPost P fn R) c (EJ 0 args) L):Calls P f args.toArray w R:=by
 refine calls_of_wp hf hb (h _ _ ⟨?_,rfl,fun t v hv ht=>?_⟩ hO)
 .have:=A1f hle;simp[hn];omega
 obtain⟨_,h2⟩:=Er args 0 t v hv;simp only[A2R] at h2;have hlt:t<args.length:=(A1e.1 h2).1;simp[A3r,hlt];simpa [A1d hlt] using h2
def Lv(P:Program)(fn:Func)(R:Ending->World->Prop)(ds:List Deferred)(a:Act)(w:World):Prop:=LeavesInM Fence.wide 0 P fn a.tmps R ds .returning w
theorem OO{fn:Func}{R:Ending->World->Prop}{e:Exit}(he:e= .ret\/e= .normal)(h:Dl w0 K n ds (Lv P fn R ds) E L):Dl w0 K n ds (bodyPostM Fence.wide 0 P fn R e) E L:=by
 intro a w ha hO;have h1:=h a w ha hO;have h2:LeavesInM Fence.wide 0 P fn a.tmps R a.defers .returning w:=by rw[ha.defers];exact h1
 rcases he with rfl|rfl<;>exact h2
theorem Ni{fn:Func}{R:Ending->World->Prop}{D:Nat}{es:List Deferred}(h:Dl w0 K n ds (Lv P fn R es) E L):Dl w0 K n ds (Lv P fn R (Nz D::es)) E (Jq D::L):=by
 intro a w ha hO;have hD:w.heap[D]? =some (.deferred (some [])):=hO.holds _ (A1m ..);have hO':AR w0 K (w.putObj D (.deferred none)) (shut D::L):=hO.putObj _ rfl rfl fun hlt=>World.putObj_heap_same hlt;exact⟨by simp,.inl ⟨D,_,rfl,run_takeDeferred hD,h a _ ha (F0 hO')⟩⟩
theorem Nj{fn:Func}{R:Ending->World->Prop}(h:Dl w0 K n ds (fun a w=>∃v,(results fn a.tmps).run P w= .ok v w/\R (.returned v) w) E L):Dl w0 K n ds (Lv P fn R []) E L:=h
theorem A0f{fn:Func}{t:Tmp}{v1:Value}{C:Value->List Chunk->Prop}(hr:fn.results=#[.tmp t])(hv1:ev n E (.tmp t)=some v1)(hC:C v1 L):
  Dl w0 K n ds (fun a w=>∃v,(results fn a.tmps).run P w= .ok v w/\Ret w0 K C (.returned v) w) E L:=by
 intro a w ha hO;refine⟨_,results_tmp hr _ _ _,_,L,rfl,?_,hO⟩;have h1:=ha.ev hv1;simp only[Act.eval] at h1;rw[h1];exact hC
end
section
variable{P:Program}{ops:Array Oper}{w0:World}{K:List Nat}{n:Nat}{ds:List Deferred}{E:Env}{L:List Chunk}{Q:Exit->Act->World->Prop}{rd:Option Nat}{o:Oper}{r:List Oper}{d:Nat}
theorem DR.loop{ι:Type}(Inv:ι->Prop)(Es:ι->Env)(Ls:ι->List Chunk)(m:ι->Nat)(i0:ι){c:Code}(h0:Inv i0)(hE:Sub E (Es i0))(hL:Dd L (Ls i0))
 (h:∀i,Inv i->DR rd P w0 K n ds (Exit.then (A0i w0 K n ds Inv Es Ls m (m i)) Q) c (Es i) (Ls i)):DR rd P w0 K n ds Q (.loop c) E L:=by
 intro a w ha hO;refine wpIn_loop_ghost (fun k a w=>∃i,m i=k/\Inv i/\DM n ds (Es i) a/\AR w0 K w (Ls i)) (m i0) ⟨i0,rfl,h0,ha.mono hE.get,hO.pick hL⟩ ?_;rintro k a w ⟨i,rfl,hi,ha,hO⟩;refine wpIn_mono (h i hi a w ha hO) ?_;intro e a' w' hq;cases e with
 | normal=>obtain⟨j,hlt,hj,hs,ho⟩:=hq;exact⟨m j,hlt,j,rfl,hj,hs,ho⟩
 | exit id=>exact hq
 | goto l=>exact hq
 | ret=>exact hq
 | panic ch=>exact hq
 | outgrown=>exact hq
theorem DR.know{c:Code}{φ:Prop}(hk:∀w,AR w0 K w L->φ)(h:φ->DR rd P w0 K n ds Q c E L):DR rd P w0 K n ds Q c E L:=fun a w ha hw=>h (hk w hw) a w ha hw
theorem CN.know{ops:Array Oper}{l:List Oper}{φ:Prop}(hk:∀w,AR w0 K w L->φ)(h:φ->CN P ops w0 K n ds Q l E L):CN P ops w0 K n ds Q l E L:=fun a w ha hw=>h (hk w hw) a w ha hw
theorem Ii.val{v:Value}(hd:o.dst=some d)(hw:want n E ops o=some true)(hdf:Ru [o]=true)(hv:Val P w0 K n ds E L o v)(h:Ii rd P ops w0 K n ds Q r ((d,v)::E) L):Ii rd P ops w0 K n ds Q (o::r) E L:=by
 intro a w ha hL;unfold wpListIn;rw[if_pos (BV hw ha)];refine⟨fun _ _=>trivial,?_⟩;show o.uponIn (FR rd) 0 P a _ Q ((o.semAt rd a.eval).run P w);rw[HU (He hdf o (by simp)),hv a w ha hL,Oper.uponIn_value,hd];exact h _ _ (ha.put (some d) v) hL
theorem SK{x y z:Operand}{ts:Array Nat}{l:Nat}{u u2:Value}{ι:Type}{Inv:ι->Prop}{Ls:ι->List Chunk}{κ:Type}{Inx:κ->Prop}{Lx:κ->List Chunk}(hd:o.dst=some d)(hw:want n E ops o=some true)(ho:o.op= .call ⟨.value x,#[y,z],ts⟩)
 (hx:ev n E x=some (.func (.yield l) #[] #[]))(hy:ev n E y=some u)(hz:ev n E z=some u2)
 (hY:∀w,AR w0 K w L->YieldAt Fence.wide 0 P l #[u,u2] w fun e w'=>(e= .returned (.bool true)/\∃j,Inv j/\AR w0 K w' (Ls j))\/(e= .returned (.bool false)/\∃j,Inx j/\AR w0 K w' (Lx j)))
 (h1:∀j,Inv j->Ii rd P ops w0 K n ds Q r ((d,.bool true)::E) (Ls j))(h2:∀j,Inx j->Ii rd P ops w0 K n ds Q r ((d,.bool false)::E) (Lx j)):Ii rd P ops w0 K n ds Q (o::r) E L:=by
 intro a w ha hL;unfold wpListIn;rw[if_pos (BV hw ha)];refine⟨fun _ _=>trivial,?_⟩;show o.uponIn (FR rd) 0 P a _ Q ((o.semAt rd a.eval).run P w);rw[HU (fun c hc=>by rw[ho] at hc;cases hc)];obtain⟨fn,tmps,assign,body,hy1,hR⟩:=hY w hL;have hrun:(execOp a.eval o).run P w= .ok (.round l fn tmps assign body) w:=by
  simp only[execOp,ho,resolve,ha.ev hx];simp[Deferred.ofValue,invoke,ha.ev hy,ha.ev hz,hy1]
 rw[hrun,Oper.uponIn_round];refine⟨fun h=>by simp[Fence.wide] at h,?_⟩;have hR':RoundIn (FR rd) (0-1) P l fn tmps assign body w fun e w'=>(e= .returned (.bool true)/\∃j,Inv j/\AR w0 K w' (Ls j))\/(e= .returned (.bool false)/\∃j,Inx j/\AR w0 K w' (Lx j)):=hR;refine hR'.mono ?_;rintro e w' (⟨rfl,j,hj,hO⟩|⟨rfl,j,hj,hO⟩)
 .rw[hd];exact h1 j hj _ _ (ha.put (some d) _) hO
 rw[hd];exact h2 j hj _ _ (ha.put (some d) _) hO
theorem Qg{x y z:Operand}{ts:Array Nat}{l:Nat}{u u2:Value}{ι:Type}{Inv:ι->Prop}{Ls:ι->List Chunk}{κ:Type}{Inx:κ->Prop}{Lx:κ->List Chunk}(hd:o.dst=some d)(hw:want n E ops o=some true)(ho:o.op= .call ⟨.value x,#[y,z],ts⟩)
 (hx:ev n E x=some (.func (.yield l) #[] #[]))(hy:ev n E y=some u)(hz:ev n E z=some u2)
 (hY:∀w,AR w0 K w L->YieldAt Fence.wide 0 P l #[u,u2] w fun e w'=>(e= .returned (.bool true)/\∃j,Inv j/\AR w0 K w' (Ls j))\/(e= .returned (.bool false)/\∃j,Inx j/\AR w0 K w' (Lx j)))
 (h:∀s:ι ⊕ κ,Sum.elim Inv Inx s->Ii rd P ops w0 K n ds Q r ((d,.bool s.isLeft)::E) (Sum.elim Ls Lx s)):Ii rd P ops w0 K n ds Q (o::r) E L:=
 SK hd hw ho hx hy hz hY (fun j hj=>h (.inl j) hj) (fun j hj=>h (.inr j) hj)
end
def Iter2(P:Program)(gf:FuncId)(lb:Array Value)(xs:List (Value×Value))(Rdy:World->Prop):Prop:=
 ∀(l:Nat) (w0:World) (K:List Nat) (ι:Type) (Inv:Nat->ι->Prop) (Ls:ι->List Chunk) (κ:Type) (Inx:κ->Prop) (Lx:κ->List Chunk),
  (∀k j w,Inv k j->AR w0 K w (Ls j)->Rdy w)->
  (∀k j w x,xs[k]? =some x->Inv k j->AR w0 K w (Ls j)->YieldAt Fence.wide 0 P l #[x.1,x.2] w fun e w'=>
   (e= .returned (.bool true)/\∃j',Inv (k+1) j'/\AR w0 K w' (Ls j'))\/(e= .returned (.bool false)/\∃j',Inx j'/\AR w0 K w' (Lx j')))->
  ∀j w,Inv 0 j->AR w0 K w (Ls j)->Calls P gf (#[.func (.yield l) #[] #[]]++lb) w fun e w'=>
   (∃v,e= .returned v)/\((∃j',Inv xs.length j'/\AR w0 K w' (Ls j'))\/(∃j',Inx j'/\AR w0 K w' (Lx j')))
section
variable{P:Program}{w0:World}{K:List Nat}{n:Nat}{ds:List Deferred}{E:Env}{L:List Chunk}{Q:Exit->Act->World->Prop}{rd:Option Nat}{ι κ:Type}{l:Nat}{r r':Loop}{Mk:List Chunk}
theorem Pb{body assign:Code}{t u:Tmp}{x x2:Value}{fnn:FuncId}{a:Act}(hr:r={ state:=.ready,pending:=none,fn:=fnn,tmps:=a.tmps,params:=#[t,u],assign,body,defers:=r.defers })
 {Inv:Nat->ι->Prop}{Ls:ι->List Chunk}{Inx:Option Nat->κ->Prop}{Lx:κ->List Chunk}{k:Nat}{j:ι}(ha:DM n ds E a)(hinv:Inv k j)
 (hbody:DR (some l) P w0 K n [] (Exit.then (ZX P w0 K n l r { r with state:=.busy } (Mb w0 K l { r with state:=.busy } Mk (Inv (k+1)) Ls Inx Lx) body) noQ) assign ((u,x2)::(t,x)::E) (HF l r::(Mk++Ls j)))
 {w:World}(hO:AR w0 K w (HF l r::(Mk++Ls j))):
  YieldAt Fence.wide 0 P l #[x,x2] w fun e w'=>
   (e= .returned (.bool true)/\∃j',Inv (k+1) j'/\AR w0 K w' (HF l r::(Mk++Ls j')))\/
   (e= .returned (.bool false)/\∃p:Option Nat×κ,Inx p.1 p.2/\AR w0 K w' (HF l { r with state:=.done,pending:=some (A0l p.1) }::(Mk++Lx p.2))):=by
 have hl:w.heap[l]? =some (.loop r):=hO.holds _ (A1m ..);have hps:r.params=#[t,u]:=by rw[hr]
 have hfn:r.fn=fnn:=by rw[hr]
 have has:r.assign=assign:=by rw[hr]
 have hbd:r.body=body:=by rw[hr]
 have htm:r.tmps=a.tmps:=by rw[hr]
 have hst:r.state= .ready:=by rw[hr]
 have hpe:r.pending=none:=by rw[hr]
 have hy:=run_yield (P:=P) (args:=#[x,x2]) hl (by rw[hps];rfl);rw[hps,hfn,has,hbd,htm] at hy;refine⟨fnn,_,assign,body,hy,roundIn_of_wpIn (F:=Fence.wide) trivial ?_⟩;have hsat:DM n [] ((u,x2)::(t,x)::E) { tmps:=((#[t,u]:Array Tmp).zip #[x,x2]).foldl (fun tmps (p:Tmp×Value)=>tmps.setIfInBounds p.1 p.2) a.tmps,defers:=[] }:=by
  have h0:DM n [] E { tmps:=a.tmps,defers:=[] }:=⟨ha.size,rfl,ha.has⟩;have:=(h0.put (some t) x).put (some u) x2;simpa [Act.put,Env.put] using this
 refine wpIn_mono (hbody _ w hsat hO) ?_;intro e a1 w1 hq;cases e with
 | normal=>
  obtain⟨E',L',hs',hO',hD⟩:=hq;have hl1:w1.heap[l]? =some (.loop r):=hO'.holds _ (A1m ..);refine⟨_,run_beginRound hl1 hst,?_⟩;have hO2:AR w0 K (w1.putObj l (.loop { r with state:=.busy })) (HF l { r with state:=.busy }::L'):=hO'.loop_put;refine wpIn_mono (hD a1 _ hs' hO2) ?_;have fin:∀(jump:Option Code) (w3:World) (M:List Chunk),AR w0 K w3 (HF l { r with state:=.busy }::M)->
    (Instr.endRound l jump).run P w3= .ok (.bool jump.isNone) (w3.putObj l (.loop { r with state:=if jump.isNone then .ready else .done,pending:=jump }))/\
    AR w0 K (w3.putObj l (.loop { r with state:=if jump.isNone then .ready else .done,pending:=jump })) (HF l { r with state:=if jump.isNone then .ready else .done,pending:=jump }::M):=fun jump w3 M h3=>
   ⟨run_endRound (r:={ r with state:=.busy }) jump (h3.holds _ (A1m ..)),h3.loop_put⟩;intro e a3 w3 hp;cases e with
  | normal=>
   obtain⟨j',hj',h3⟩:=hp;obtain⟨f1,f2⟩:=fin none w3 _ h3;refine⟨_,_,f1,.inl ⟨rfl,j',hj',?_⟩⟩;have e:({ r with state:=if(none:Option Code).isNone then .ready else .done,pending:=none }:Loop)=r:=by
    rw[hr];rfl
   rw[e] at f2 ⊢;exact f2
  | ret=>
   obtain⟨j',hj',h3⟩:=hp;obtain⟨f1,f2⟩:=fin (some .ret) w3 _ h3;exact⟨_,_,f1,.inr ⟨rfl,(none,j'),hj',f2⟩⟩
  | exit id=>
   obtain⟨j',hj',h3⟩:=hp;obtain⟨f1,f2⟩:=fin (some (.exit id)) w3 _ h3;exact⟨_,_,f1,.inr ⟨rfl,(some id,j'),hj',f2⟩⟩
  | goto t=>exact hp.elim
  | panic ch=>exact hp.elim
  | outgrown=>exact hp.elim
 | exit id=>exact hq.elim
 | goto t=>exact hq.elim
 | ret=>exact hq.elim
 | panic ch=>exact hq.elim
 | outgrown=>exact hq.elim
theorem Xf{g:Operand}{t u:Tmp}{assign body:Code}{gf:FuncId}{lb:Array Value}{xs:List (Value×Value)}{Rdy:World->Prop}(Inv:Nat->ι->Prop)(Ls:ι->List Chunk)(Inx:Option Nat->κ->Prop)(Lx:κ->List Chunk)(j0:ι)
 (hg:ev n E g=some (.func (.func gf) #[] lb))(hent:BY P gf)(hit:Iter2 P gf lb xs Rdy)(hrdy:∀k j w,Inv k j->AR w0 K w (Ls j)->Rdy w)(h0:Inv 0 j0)(hL:Dd L (Ls j0))
 (hbody:∀l r r' D k j x,xs[k]? =some x->Inv k j->DR (some l) P w0 K n [] (Exit.then (ZX P w0 K n l r r' (Mb w0 K l r' [Jq D] (Inv (k+1)) Ls Inx Lx) body) noQ) assign ((u,x.2)::(t,x.1)::E) (HF l r::([Jq D]++Ls j)))
 (hdone:∀D j,Inv xs.length j->Dl w0 K n (Nz D::ds) (Q .normal) E (Jq D::Ls j))
 (hstop:∀D c j,Inx c j->Dl w0 K n (Nz D::ds) (Q (jex c)) E (Jq D::Lx j)):DC P w0 K n ds Q (.rangeFunc g #[t,u] assign body) E L:=by
 refine DC.round fun a w ha hO=>?_;refine wpIn_rangeFunc ?_;intro fnn _;obtain⟨rec,hrec⟩:∃rec:Loop,rec={ state:=.ready,pending:=none,fn:=fnn,tmps:=a.tmps,params:=#[t,u],assign,body,defers:=w.heap.size }:=⟨_,rfl⟩;have hent':=run_enterLoop_outer (P:=P) (w:=w) fnn a.tmps #[t,u] assign body;rw[<-hrec] at hent';obtain⟨h1,h2⟩:=QU (P:=P) (w:=(w.alloc (.deferred (some []))).alloc (.loop rec)) hent (ha.ev hg) (w.heap.size+1);refine⟨w.heap.size+1,[Nz w.heap.size],_,_,_,gf,_,_,hent',h1,fun _ _=>trivial,h2,fun h=>by simp[Fence.wide] at h,?_⟩;have hO1:AR w0 K ((w.alloc (.deferred (some []))).alloc (.loop rec)) (HF (w.heap.size+1) rec::([Jq w.heap.size]++Ls j0)):=by
  have o1:AR w0 K (w.alloc (.deferred (some []))) (Jq w.heap.size::Ls j0):=(hO.pick hL).allocObj _ _ rfl (World.alloc_heap_new w _);have o2:=o1.allocObj (.loop rec) (HF (w.heap.size+1) rec) (by simp[HF]) (by
   have:=World.alloc_heap_new (w.alloc (.deferred (some []))) (.loop rec);rwa [World.size_alloc] at this);exact o2
 refine(KL (Calls.mono (hit (w.heap.size+1) w0 K ι Inv (fun j=>HF (w.heap.size+1) rec::([Jq w.heap.size]++Ls j)) (Option Nat×κ) (fun p=>Inx p.1 p.2)
  (fun p=>HF (w.heap.size+1) { rec with state:=.done,pending:=some (A0l p.1) }::([Jq w.heap.size]++Lx p.2)) (fun k j w' hj ho=>hrdy k j w' hj (Oe (F0 ho))) ?_ j0 _ h0 hO1) ?_))
 .intro k j w' x hx hj ho;exact Pb (by subst hrec;rfl) ha hj (hbody _ _ _ _ k j x hx hj) ho
 rintro e w' ⟨⟨v,rfl⟩,(⟨j,hj,ho⟩|⟨⟨c,j⟩,hj,ho⟩)⟩
 .refine⟨none,_,by have:=run_endLoop (P:=P) (r:=rec) (ho.holds _ (A1m ..)) (by rw[hrec];simp);rw[show rec.pending=none by rw[hrec]] at this;exact this,?_⟩;exact hdone _ j hj _ _ ⟨ha.size,by simp[ha.defers],ha.has⟩ (F0 (ho.loop_put (r':={ rec with state:=.exhausted,pending:=none })))
 refine⟨some (A0l c),_,run_endLoop (P:=P) (r:={ rec with state:=.done,pending:=some (A0l c) }) (ho.holds _ (A1m ..)) (by simp),?_⟩;have hf:=hstop w.heap.size c j hj { a with defers:=[Nz w.heap.size]++a.defers } _ ⟨ha.size,by simp[ha.defers],ha.has⟩ (F0 (ho.loop_put (r':={ { rec with state:=.done,pending:=some (A0l c) } with state:=.exhausted })));cases c with
 | none=>exact wpIn_ret hf
 | some id=>exact wpIn_exit hf
end
section
variable{P:Program}{w0:World}{K:List Nat}{n:Nat}{ds:List Deferred}{E:Env}{L:List Chunk}
theorem W9{fn:Func}{p q:Tmp}{ty:TypeId}{g t:Nat}{cs:Array Value}{u:Value}{C:Value->List Chunk->Prop}(hr:fn.results=#[.cell p ty,.tmp q])
 (hv:ev n E (.tmp p)=some (.pointer (some ⟨g,0,none⟩)))(hq:ev n E (.tmp q)=some u)[h:Find L g t cs](ht:CG P ty=some true)(hs:BD P ty=some cs.size)(hR:∃L',(∀w,AR w0 K w L->AR w0 K w L')/\C (.tuple #[.agg cs,u]) L'):
  Dl w0 K n ds (fun a w=>∃v,(results fn a.tmps).run P w= .ok v w/\Ret w0 K C (.returned v) w) E L:=by
 intro a w ha hO;obtain⟨L',hL,hC⟩:=hR;have hg:=hO.holds _ h.mem;have hp:a.tmps.getD p undef= .pointer (some ⟨g,0,none⟩):=by have:=ha.ev hv;simpa only[Act.eval] using this
 have hq':a.tmps.getD q undef=u:=by have:=ha.ev hq;simpa only[Act.eval] using this
 refine⟨_,?_,.tuple #[.agg cs,u],L',rfl,hC,hL w hO⟩;rw[results_cell_tmp hr,hp,hq'];simp[asAddr,GF hg ht hs,Result.andThen]
end
end Go.Fl
namespace Go.Proofs
open Go.Shelf Go.RowKit Go.Lib Go.Sort
def Tryz.sortI_ren:Go.Shelf.Ren:=⟨fun|5=>95|8=>105|7=>126|19=>140|20=>141|10=>156|11=>157|12=>158|13=>159|14=>160|15=>161|16=>162|17=>163|18=>164|30=>175|31=>166|32=>167|33=>176|34=>177|35=>149|40=>184|n=>n,fun|23=>37|25=>3|3=>3|32=>213|22=>37|0=>0|44=>252|46=>254|4=>4|36=>246|35=>245|41=>180|5=>5|9=>9|53=>267|57=>271|63=>278|64=>113|n=>n,fun n=>n⟩
theorem Nb:Go.Proofs.SlLaysM.n5 A1c Tryz.sortI_ren:={
 mixed:=by kernel_rfl
 f5:=⟨"slices.Sort[[]int,int]",by decide,Tryz.func95.trans (congrArg some (by kernel_rfl))⟩
 f7:=⟨"slices.pdqsortOrdered[int]",by decide,Tryz.func126.trans (congrArg some (by kernel_rfl))⟩
 f8:=Tryz.func105.trans (congrArg some (by kernel_rfl))
 f10:=⟨"slices.insertionSortOrdered[int]",by decide,Tryz.func156.trans (congrArg some (by kernel_rfl))⟩
 f11:=⟨"slices.heapSortOrdered[int]",by decide,Tryz.func157.trans (congrArg some (by kernel_rfl))⟩
 f12:=⟨"slices.breakPatternsOrdered[int]",by decide,Tryz.func158.trans (congrArg some (by kernel_rfl))⟩
 f13:=⟨"slices.choosePivotOrdered[int]",by decide,Tryz.func159.trans (congrArg some (by kernel_rfl))⟩
 f14:=⟨"slices.reverseRangeOrdered[int]",by decide,Tryz.func160.trans (congrArg some (by kernel_rfl))⟩
 f15:=⟨"slices.partialInsertionSortOrdered[int]",by decide,Tryz.func161.trans (congrArg some (by kernel_rfl))⟩
 f16:=⟨"cmp.Less[int]",by decide,Tryz.func162.trans (congrArg some (by kernel_rfl))⟩
 f17:=⟨"slices.partitionEqualOrdered[int]",by decide,Tryz.func163.trans (congrArg some (by kernel_rfl))⟩
 f18:=⟨"slices.partitionOrdered[int]",by decide,Tryz.func164.trans (congrArg some (by kernel_rfl))⟩
 f19:=Tryz.func140.trans (congrArg some (by kernel_rfl))
 f20:=Tryz.func141.trans (congrArg some (by kernel_rfl))
 f30:=⟨"slices.siftDownOrdered[int]",by decide,Tryz.func175.trans (congrArg some (by kernel_rfl))⟩
 f31:=Tryz.func166.trans (congrArg some (by kernel_rfl))
 f32:=Tryz.func167.trans (congrArg some (by kernel_rfl))
 f33:=⟨"slices.medianAdjacentOrdered[int]",by decide,Tryz.func176.trans (congrArg some (by kernel_rfl))⟩
 f34:=⟨"slices.medianOrdered[int]",by decide,Tryz.func177.trans (congrArg some (by kernel_rfl))⟩
 f35:=⟨"cmp.isNaN[int]",by decide,Tryz.func149.trans (congrArg some (by kernel_rfl))⟩
 f40:=⟨"slices.order2Ordered[int]",by decide,Tryz.func184.trans (congrArg some (by kernel_rfl))⟩
 t0:=Tryz.underlying0
 a0:=Tryz.isAgg0
 z0:=Tryz.sizeOf0
 v0:=Tryz.zeroValue0
 t3:=Tryz.underlying3
 a3:=Tryz.isAgg3
 z3:=Tryz.sizeOf3
 v3:=Tryz.zeroValue3
 t4:=Tryz.underlying4
 a4:=Tryz.isAgg4
 z4:=Tryz.sizeOf4
 v4:=Tryz.zeroValue4
 t5:=Tryz.underlying5
 a5:=Tryz.isAgg5
 z5:=Tryz.sizeOf5
 v5:=Tryz.zeroValue5
 t9:=Tryz.underlying9
 a9:=Tryz.isAgg9
 z9:=Tryz.sizeOf9
 v9:=Tryz.zeroValue9
 t22:=A1x
 a22:=Tryz.isAgg37
 z22:=Tryz.sizeOf37
 v22:=Tryz.zeroValue37
 t23:=A1x
 a23:=Tryz.isAgg37
 z23:=Tryz.sizeOf37
 v23:=Tryz.zeroValue37
 t25:=Tryz.underlying3
 a25:=Tryz.isAgg3
 z25:=Tryz.sizeOf3
 v25:=Tryz.zeroValue3
 t32:=Tryz.underlying213
 a32:=Tryz.isAgg213
 z32:=Tryz.sizeOf213
 v32:=Tryz.zeroValue213
 t35:=Tryz.underlying245
 a35:=Tryz.isAgg245
 z35:=Tryz.sizeOf245
 v35:=Tryz.zeroValue245
 t36:=Tryz.underlying246
 a36:=Tryz.isAgg246
 z36:=Tryz.sizeOf246
 v36:=Tryz.zeroValue246
 t41:=Tryz.underlying180
 a41:=Tryz.isAgg180
 z41:=Tryz.sizeOf180
 v41:=Tryz.zeroValue180
 t44:=Tryz.underlying252
 a44:=Tryz.isAgg252
 z44:=Tryz.sizeOf252
 v44:=Tryz.zeroValue252
 t46:=Tryz.underlying254
 a46:=Tryz.isAgg254
 z46:=Tryz.sizeOf254
 v46:=Tryz.zeroValue254
 t53:=Tryz.underlying267
 a53:=Tryz.isAgg267
 z53:=Tryz.sizeOf267
 v53:=Tryz.zeroValue267
 t57:=Tryz.underlying271
 a57:=Tryz.isAgg271
 z57:=Tryz.sizeOf271
 v57:=Tryz.zeroValue271
 t63:=Tryz.underlying278
 a63:=Tryz.isAgg278
 z63:=Tryz.sizeOf278
 v63:=Tryz.zeroValue278
 t64:=Tryz.underlying113
 a64:=Tryz.isAgg113
 z64:=Tryz.sizeOf113
 v64:=Tryz.zeroValue113 }
end Go.Proofs
namespace Go.Fl
open Go Go.Proofs
def Vu(ks:List Int)(k:Int):Nat:=ks.countP fun x=>decide (x<k)
def Qt(ks:List Int)(k:Int):Nat:=ks.countP fun x=>decide (x=k)
def KT(ks:List Int)(i:Nat):Nat:=Vu ks (Ae ks i)+Qt (ks.take i) (Ae ks i)
section
variable{ks:List Int}{i j:Nat}{k:Int}
theorem M1:∀(ks:List Int) (k:Int),Vu ks (k+1)=Vu ks k+Qt ks k
 | [],k=>rfl
 | a::l,k=>by
  have ih:=M1 l k;unfold Vu Qt at ih ⊢;simp only[A1Q,decide_eq_true_eq];have:(if a<k+1 then 1 else 0)=(if a<k then 1 else 0)+(if a=k then 1 else 0):=by split<;>split<;>split<;>omega
  omega
theorem ZG(ks:List Int)(k:Int):Vu ks k<=ks.length:=A2n
theorem ZF{k':Int}(h:k<=k'):Vu ks k<=Vu ks k':=A3R fun x _ hx=>by simp at hx ⊢;omega
theorem J7{x:Int}(hi:ks[i]? =some x)(k:Int):Qt (ks.take (i+1)) k=Qt (ks.take i) k+if x=k then 1 else 0:=by
 unfold Qt;rw[A1W,hi,A2r];simp[A1Q]
theorem Vw(i:Nat)(k:Int):Qt (ks.take i) k<=Qt ks k:=List.Sublist.countP_le (List.take_sublist i ks)
theorem ZJ(h:i<=j)(k:Int):Qt (ks.take i) k<=Qt (ks.take j) k:=by
 have:ks.take i=(ks.take j).take i:=by rw[List.take_take,Nat.min_eq_left h]
 rw[this];exact Vw i k
theorem CC(hi:i<ks.length):ks[i]? =some (Ae ks i):=by
 have:=BM (l:=ks) (i:=(i:Int)) (by omega);rwa [A1g] at this
theorem UP(hi:i<ks.length):KT ks i+1<=Vu ks (Ae ks i+1):=by
 rw[M1];unfold KT;have h1:=J7 (CC hi) (Ae ks i);have h2:=Vw (ks:=ks) (i+1) (Ae ks i);rw[if_pos rfl] at h1;omega
theorem To(hi:i<ks.length):KT ks i<ks.length:=by
 have:=UP hi;have:=ZG ks (Ae ks i+1);omega
theorem Mc(hi:i<ks.length)(h:Ae ks i<Ae ks j):KT ks i<KT ks j:=by
 have h1:=UP hi;have h2:=ZF (ks:=ks) (k:=Ae ks i+1) (k':=Ae ks j) (by omega);have h3:Vu ks (Ae ks j)<=KT ks j:=Nat.le_add_right _ _;omega
theorem Q5(hi:i<ks.length)(h:i<j)(e:Ae ks i=Ae ks j):KT ks i<KT ks j:=by
 unfold KT;rw[<-e];have h1:=J7 (CC hi) (Ae ks i);have h2:=ZJ (ks:=ks) (i:=i+1) (j:=j) h (Ae ks i);rw[if_pos rfl] at h1;omega
theorem Q4(ks:List Int):Perm ks.length (KT ks):=by
 refine⟨fun i hi=>To hi,fun i j hi hj e=>?_⟩;apply Classical.byContradiction;intro hne;by_cases h1:Ae ks i<Ae ks j
 .have:=Mc hi h1;omega
 by_cases h2:Ae ks j<Ae ks i
 .have:=Mc hj h2;omega
 by_cases h3:i<j
 .have:=Q5 hi h3 (by omega);omega
 have:=Q5 hj (show j<i by omega) (by omega);omega
theorem Q8{its os:List Int}{kf:Int->Int}(hl:its.length=ks.length)(ho:os.length=ks.length)(hk:∀(i:Nat) x,its[i]? =some x->Ae ks i=kf x)(hos:∀i,i<ks.length->os[KT ks i]? =its[i]?)(hn:its.Nodup):
  os.Nodup/\(∀x,x∈os↔x∈its)/\os.Pairwise fun x y=>kf x<=kf y:=by
 have hp:=Q4 ks;have at':∀p,p<ks.length->∃i x,i<ks.length/\KT ks i=p/\its[i]? =some x/\os[p]? =some x:=fun p hpl=>by
  obtain⟨i,hi,e⟩:=Oa hp hpl;obtain⟨x,hx⟩:∃x,its[i]? =some x:=⟨_,A1d (by omega)⟩;exact⟨i,x,hi,e,hx,by rw[<-e,hos i hi,hx]⟩
 refine⟨?_,fun x=>⟨fun hx=>?_,fun hx=>?_⟩,?_⟩
 .unfold List.Nodup;rw[A2t];intro p q h1 h2 hpq e;obtain⟨i,x,a1,a2,a3,a4⟩:=at' p (by omega);obtain⟨j,y,b1,b2,b3,b4⟩:=at' q (by omega);rw[A1d h1] at a4;rw[A1d h2] at b4;have e1:x=y:=by rw[<-Option.some.inj a4,<-Option.some.inj b4,e]
  subst e1;have:i=j:=by
   have h3:=(A1e.1 a3);have h4:=(A1e.1 b3);obtain⟨h3,h3'⟩:=h3;obtain⟨h4,h4'⟩:=h4;have e3:=hn.idxOf_getElem i h3;have e4:=hn.idxOf_getElem j h4;rw[h3'] at e3;rw[h4'] at e4;omega
  subst this;omega
 .obtain⟨p,hp2⟩:=A1j.1 hx;obtain⟨i,y,a1,a2,a3,a4⟩:=at' p (by have:=(A1e.1 hp2).1;omega);rw[hp2] at a4;rw[Option.some.inj a4];exact A1h a3
 .obtain⟨i,hi⟩:=A1j.1 hx;have:=hos i (by have:=(A1e.1 hi).1;omega);rw[hi] at this;exact A1h this
 rw[A2t];intro p q h1 h2 hpq;obtain⟨i,x,a1,a2,a3,a4⟩:=at' p (by omega);obtain⟨j,y,b1,b2,b3,b4⟩:=at' q (by omega);rw[A1d h1] at a4;rw[A1d h2] at b4;rw[Option.some.inj a4,Option.some.inj b4,<-hk i x a3,<-hk j y b3];apply Classical.byContradiction;intro hc;have:=Mc b1 (show Ae ks j<Ae ks i by omega);omega
end
section
open Classical
def mx:Int:=9223372036854775807
def CV(p:Int×Int)(h:Int):Int×Int:=if h<p.1 then(h,p.1) else if p.1<h/\h<p.2 then(p.1,h) else p
def IJ(l:List Int):Int×Int:=l.foldl CV (mx,mx)
structure SI (S:Int->Prop) (p:Int×Int):Prop where
 le:∀x,S x->x<mx->p.1<=x/\(x=p.1\/p.2<=x)
 a:p.1<mx->S p.1
 b:p.2<mx->S p.2
 ab:p.1<mx->p.1<p.2
 m:p.1<=mx/\p.2<=mx
theorem XD{S:Int->Prop}{p:Int×Int}{x:Int}(h:SI S p)(hx:x<=mx):SI (fun y=>S y\/y=x) (CV p x):=by
 obtain⟨h1,h2,h3,h4,h5,h6⟩:=h;unfold CV;split
 .rename_i c;refine⟨fun y hy hl=>?_,fun _=>.inr rfl,fun q=>.inl (h2 q),fun _=>c,hx,h5⟩;rcases hy with hy|rfl
  .have:=h1 y hy hl;dsimp only;omega
  dsimp only;omega
 rename_i c;split
 .rename_i d;refine⟨fun y hy hl=>?_,fun q=>.inl (h2 q),fun _=>.inr rfl,fun _=>d.1,h5,hx⟩;rcases hy with hy|rfl
  .have:=h1 y hy hl;dsimp only;omega
  dsimp only;omega
 rename_i d;refine⟨fun y hy hl=>?_,fun q=>.inl (h2 q),fun q=>.inl (h3 q),h4,h5,h6⟩;rcases hy with hy|rfl
 .exact h1 y hy hl
 omega
theorem SI.congr{S T:Int->Prop}{p:Int×Int}(h:SI S p)(hs:∀x,S x↔T x):SI T p:=
 ⟨fun x hx=>h.le x ((hs x).2 hx),fun q=>(hs _).1 (h.a q),fun q=>(hs _).1 (h.b q),h.ab,h.m⟩
theorem QI:∀(l:List Int) {S:Int->Prop} {p:Int×Int},SI S p->(∀x,x∈l->x<=mx)->SI (fun y=>S y\/y∈l) (l.foldl CV p)
 | [],S,p,h,_=>h.congr fun x=>by simp
 | a::l,S,p,h,hl=>(QI l (XD h (hl a (by simp))) fun x hx=>hl x (by simp[hx])).congr fun x=>by simp[or_assoc]
theorem UF{l:List Int}(hl:∀x,x∈l->x<=mx):SI (fun y=>y∈l) (IJ l):=
 (QI l (S:=fun _=>False) (p:=(mx,mx)) ⟨fun x hx=>hx.elim,fun q=>by unfold mx at q;dsimp only at q;omega,fun q=>by unfold mx at q;dsimp only at q;omega,fun q=>by unfold mx at q;dsimp only at q;omega,by simp⟩ hl).congr fun x=>by simp
theorem SI.rep{S T:Int->Prop}{p:Int×Int}(h:SI T p)(hs:∀x,T x->x<mx->S x)(hr:∀x,S x->x<mx->T x\/∃y z,T y/\T z/\y<z/\z<x):SI S p:=by
 refine⟨fun x hx hl=>?_,fun q=>hs _ (h.a q) q,fun q=>hs _ (h.b q) q,h.ab,h.m⟩;rcases hr x hx hl with g|⟨y,z,h1,h2,h3,h4⟩
 .exact h.le x g hl
 have:=h.le y h1 (by omega);have:=h.le z h2 (by omega);omega
section
variable{es:List Pr}{pa he oi lo:Int->Int}{N:Int}{u v w x:Int}
theorem BJ.child(hF:CD es pa he oi N)(h:BJ es pa v x):0<=x->x<N->v≠x->∃k,GP es pa oi k/\Aj es k=v/\BJ es pa (AD es k) x:=by
 induction h with
 | refl=>intro _ _ h;exact absurd rfl h
 | @step x hp _ ih=>
  intro x0 x1 _;obtain⟨h1,h2,h3,h4,h5⟩:=hF.par x0 x1 hp;by_cases c:v=Aj es (pa x)
  .exact⟨pa x,h1,c.symm,by rw[h2];exact .refl⟩
  obtain⟨k,k1,k2,k3⟩:=ih h4 h5 c;exact⟨k,k1,k2,.step hp k3⟩
def Bv(es:List Pr)(pa he oi:Int->Int)(v x:Int):Prop:=∃b,DO es pa oi b/\BJ es pa v (Aj es b)/\he (AD es b)=x
def told(es:List Pr)(pa he:Int->Int)(fs:Int->Int×Int)(h:Int):List Int:=if pa (AD es h)=h then[(fs (AD es h)).1,(fs (AD es h)).2] else[he (AD es h)]
theorem A0B{fs:Int->Int×Int}{h:Int}(hf:pa (AD es h)=h->(fs (AD es h)).1<=mx/\(fs (AD es h)).2<=mx)(hb:he (AD es h)<=mx):∀x,x∈told es pa he fs h->x<=mx:=fun x hx=>by
 unfold told at hx;split at hx
 .rename_i c;have:=hf c;simp at hx;rcases hx with rfl|rfl<;>omega
 simp at hx;omega
theorem Xx(hF:CD es pa he oi N)(hb:∀v,0<=v->v<N->he v<mx){fs:Int->Int×Int}{l:List Int}(hl:∀h,h∈l↔DS es oi h/\Aj es h=v)(hfs:∀h,h∈l->pa (AD es h)=h->SI (Bv es pa he oi (AD es h)) (fs (AD es h))):
  SI (Bv es pa he oi v) (IJ (l.flatMap (told es pa he fs))):=by
 have hle:∀x,x∈l.flatMap (told es pa he fs)->x<=mx:=fun x hx=>by
  obtain⟨h,hh,hx⟩:=A1R.1 hx;have ho:=((hl h).1 hh).1;have hr:=(hF.rng ho.1).2;exact A0B (fun c=>(hfs h hh c).m) (by have:=hb _ hr.1 hr.2;omega) x hx
 refine(UF hle).rep (fun x hx hxm=>?_) fun x ⟨b,b1,b2,b3⟩ hxm=>?_
 .obtain⟨h,hh,hx⟩:=A1R.1 hx;obtain⟨ho,hv⟩:=(hl h).1 hh;unfold told at hx;split at hx
  .rename_i c;have ht:=hfs h hh c;have:Bv es pa he oi (AD es h) x:=by
    simp at hx;rcases hx with rfl|rfl
    .exact ht.a hxm
    exact ht.b hxm
   obtain⟨b,b1,b2,b3⟩:=this;have:=(hF.tree ⟨ho,c⟩).2;rw[hv] at this;exact⟨b,b1,b2.trans this,b3⟩
  rename_i c;simp at hx;exact⟨h,⟨ho,c⟩,by rw[hv];exact .refl,hx.symm⟩
 by_cases c:v=Aj es b
 .have hm:=(hl b).2 ⟨b1.1,c.symm⟩;left;refine A1R.2 ⟨b,hm,?_⟩;unfold told;rw[if_neg b1.2];simp[b3]
 have hr:=(hF.rng b1.1.1).1;obtain⟨k,k1,k2,k3⟩:=b2.child hF hr.1 hr.2 c;have hm:=(hl k).2 ⟨k1.1,k2⟩;have ht:=hfs k hm k1.2;have m1:(fs (AD es k)).1∈l.flatMap (told es pa he fs):=A1R.2 ⟨k,hm,by unfold told;rw[if_pos k1.2];simp⟩;have m2:(fs (AD es k)).2∈l.flatMap (told es pa he fs):=A1R.2 ⟨k,hm,by unfold told;rw[if_pos k1.2];simp⟩;have g:=ht.le x ⟨b,b1,k3,b3⟩ hxm;rcases g.2 with e|e
 .left;rw[e];exact m1
 by_cases e2:x=(fs (AD es k)).2
 .left;rw[e2];exact m2
 exact .inr ⟨_,_,m1,m2,ht.ab (by omega),by omega⟩
def OP(es:List Pr)(pa he oi:Int->Int)(h a nest:Int):Prop:=
 ((∃b,Rt es pa he oi h b)->∃b,Lw es pa he oi h b/\a=he (AD es b))/\((¬∃b,Rt es pa he oi h b)->a=he (Aj es h))/\((∃b,Rt es pa he oi h b/\a<he (AD es b))->nest=2*a+1)/\((¬∃b,Rt es pa he oi h b/\a<he (AD es b))->nest=2*a)
def E3(p:Int×Int):Int:=if p.2=mx then p.1 else p.2
def HJ(p:Int×Int)(ht:Int):Int:=if p.1<E3 p/\E3 p<ht then 2*p.1+1 else 2*p.1
theorem WO(hF:CD es pa he oi N)(hb:∀v,0<=v->v<N->he v<mx){h:Int}(hh:DO es pa oi h):OP es pa he oi h (IJ [he (Aj es h),he (AD es h)]).1 (HJ (IJ [he (Aj es h),he (AD es h)]) (he (Aj es h))):=by
 have hr:=hF.rng hh.1.1;have h1:=hb _ hr.1.1 hr.1.2;have h2:=(hF.back hh).2;have e:IJ [he (Aj es h),he (AD es h)]=(he (AD es h),he (Aj es h)):=by
  unfold IJ;simp only[List.foldl_cons,List.foldl_nil];rw[show CV (mx,mx) (he (Aj es h))=(he (Aj es h),mx) by unfold CV;rw[if_pos (by dsimp only;omega)]];unfold CV;rw[if_pos (by dsimp only;omega)]
 rw[e];refine⟨fun _=>⟨h,⟨Rt.self hF hh,fun c hc=>?_⟩,rfl⟩,fun hn=>absurd ⟨h,Rt.self hF hh⟩ hn,fun⟨b,hb,hl⟩=>?_,fun _=>?_⟩
 .rw[Dh hh hc];omega
 .rw[Dh hh hb] at hl;dsimp only at hl;omega
 unfold HJ E3;rw[if_neg (show ¬(he (AD es h),he (Aj es h)).2=mx by dsimp only;omega)];rw[if_neg (by dsimp only;omega)]
theorem WN(hF:CD es pa he oi N)(hb:∀v,0<=v->v<N->he v<mx){h:Int}{p:Int×Int}(hh:GP es pa oi h)(hp:SI (Bv es pa he oi (AD es h)) p):
  OP es pa he oi h (IJ [he (Aj es h),min p.1 (he (Aj es h)),min p.2 (he (Aj es h))]).1 (HJ (IJ [he (Aj es h),min p.1 (he (Aj es h)),min p.2 (he (Aj es h))]) (he (Aj es h))):=by
 have hr:=hF.rng hh.1.1;have h1:=hb _ hr.1.1 hr.1.2;obtain⟨a,c⟩:=p;have hrt:∀b,Rt es pa he oi h b↔(DO es pa oi b/\BJ es pa (AD es h) (Aj es b)/\he (AD es b)<he (Aj es h)):=fun b=>by
  constructor
  .rintro⟨b1,b2,b3⟩;rcases b3 with rfl|b3
   .exact absurd hh.2 b1.2
   exact⟨b1,b3.2,b2⟩
  rintro⟨b1,b2,b3⟩;exact⟨b1,b3,.inr ⟨hh,b2⟩⟩
 have hT:=UF (l:=[he (Aj es h),min a (he (Aj es h)),min c (he (Aj es h))]) (fun x hx=>by simp at hx;omega);obtain⟨q,hq⟩:∃q,q=IJ [he (Aj es h),min a (he (Aj es h)),min c (he (Aj es h))]:=⟨_,rfl⟩;dsimp only;rw[<-hq] at hT ⊢;obtain⟨q1,q2⟩:=q;obtain⟨t1,t2,t3,t4,t5,t6⟩:=hT;obtain⟨s1,s2,s3,s4,s5,s6⟩:=hp;dsimp only at *;have f1:=t1 (he (Aj es h)) (by simp) h1;have f2:=t1 (min a (he (Aj es h))) (by simp) (by omega);have f3:=t1 (min c (he (Aj es h))) (by simp) (by omega);have g1:=t2 (by omega);have g4:=t4 (by omega);simp only[A1H,List.not_mem_nil,or_false] at g1 t3;have hac:a<=c:=by
  by_cases k:c<mx
  .exact(s1 c (s3 k) k).1
  omega
 have hlow:q1=min a (he (Aj es h)):=by omega
 have hmin:a<he (Aj es h)->a<c:=fun h=>s4 (by omega);refine⟨fun⟨b,hbr⟩=>?_,fun hn=>?_,fun⟨b,hbr,hl⟩=>?_,fun hn=>?_⟩
 .obtain⟨b1,b2,b3⟩:=(hrt b).1 hbr;have:=s1 _ ⟨b,b1,b2,rfl⟩ (by omega);obtain⟨d,d1,d2,d3⟩:=s2 (by omega);refine⟨d,⟨(hrt d).2 ⟨d1,d2,by omega⟩,fun e he'=>?_⟩,by omega⟩;obtain⟨e1,e2,e3⟩:=(hrt e).1 he';have:=s1 _ ⟨e,e1,e2,rfl⟩ (by omega);omega
 .by_cases k:a<he (Aj es h)
  .obtain⟨d,d1,d2,d3⟩:=s2 (by omega);exact absurd ⟨d,(hrt d).2 ⟨d1,d2,by omega⟩⟩ hn
  omega
 .obtain⟨b1,b2,b3⟩:=(hrt b).1 hbr;have:=s1 _ ⟨b,b1,b2,rfl⟩ (by omega);unfold HJ E3;dsimp only;rw[if_neg (by omega:¬q2=mx),if_pos (by omega)]
 have hc:¬c<he (Aj es h):=fun k=>by
  obtain⟨d,d1,d2,d3⟩:=s3 (by omega);have:=s1 _ ⟨d,d1,d2,d3⟩ (by omega);refine hn ⟨d,(hrt d).2 ⟨d1,d2,by omega⟩,?_⟩;by_cases k2:a<mx
  .have:=s4 k2;omega
  omega
 unfold HJ E3;dsimp only;by_cases k:q2=mx
 .rw[if_pos k,if_neg (by omega)]
 rw[if_neg k,if_neg];intro hcon;rcases t3 (by omega) with e|e|e<;>omega
theorem low_ok(hF:CD es pa he oi N){nest:Int->Int}{all:List Int}{out:Int->List Int}(hE:∀h,DS es oi h->OP es pa he oi h (lo (h / 2)) (nest (h / 2)))(hm:∀h,h∈all↔DS es oi h)(hn:all.Nodup)(hs:all.Pairwise fun h k=>nest (h / 2)<=nest (k / 2))
 (ho:∀v,0<=v->v<N->out v=all.filter fun h=>decide (Aj es h=v)):B9 es pa he oi lo N out:=by
 refine⟨fun h hh=>(hE h hh).1,fun h hh=>(hE h hh).2.1,fun v v0 v1 h=>?_,fun v v0 v1=>?_,fun v v0 v1=>?_⟩
 .rw[ho v v0 v1,A1D,hm h];simp
 .rw[ho v v0 v1];exact List.Nodup.sublist A1X hn
 rw[ho v v0 v1];refine(List.Pairwise.sublist A1X hs).imp_of_mem fun{h k} hh hk hle=>?_;have h1:=(hE h ((hm h).1 (A1D.1 hh).1)).2.2;have h2:=(hE k ((hm k).1 (A1D.1 hk).1)).2.2;by_cases s1:Sec es pa he oi lo h
 .have e1:=h1.1 s1;by_cases s2:Sec es pa he oi lo k
  .have e2:=h2.1 s2;by_cases c:lo (h / 2)<lo (k / 2)
   .exact .inl c
   exact .inr ⟨by omega,fun _=>s2⟩
  have e2:=h2.2 s2;exact .inl (by omega)
 have e1:=h1.2 s1;by_cases s2:Sec es pa he oi lo k
 .have e2:=h2.1 s2;by_cases c:lo (h / 2)<lo (k / 2)
  .exact .inl c
  exact .inr ⟨by omega,fun g=>absurd g s1⟩
 have e2:=h2.2 s2;by_cases c:lo (h / 2)<lo (k / 2)
 .exact .inl c
 exact .inr ⟨by omega,fun g=>absurd g s1⟩
end
end
def par(es:List Pr)(pa:List Int)(v:Int):Int:=if Ae pa v<0 then -1 else Aj es (Ae pa v)
def UO(pa he:List Int)(N v:Int):Bool:=decide (0<=Ae he v/\Ae he v<N/\(Ae he v=0↔Ae pa v= -1))
def Q2(pa he:List Int)(N:Nat):Bool:=(List.range N).all fun v=>UO pa he N v
def Gu(es:List Pr)(pa:List Int):Nat->Int->Int->Bool
 | 0,_,_=>false
 | k+1,u,v=>if v<0 then false else if u=v then true else Gu es pa k u (par es pa v)
def JH(es:List Pr)(pa:List Int)(N:Int):List Int->List Bool->List Int->Bool
 | [],_,_=>true
 | v::r,sb,way=>
  if v<0\/N<=v\/(sb[v.toNat]?).getD false=true then false else
  if par es pa v<0 then JH es pa N r (sb.set v.toNat true) [v] else
  if way.dropWhile (fun x=>decide (x≠par es pa v))=[] then false else
  JH es pa N r (sb.set v.toNat true) (v::way.dropWhile (fun x=>decide (x≠par es pa v)))
theorem Oh(es:List Pr)(pa:List Int)(N v:Int)(r:List Int)(sb:List Bool)(way:List Int):JH es pa N (v::r) sb way=
  if v<0\/N<=v\/(sb[v.toNat]?).getD false=true then false else
  if par es pa v<0 then JH es pa N r (sb.set v.toNat true) [v] else
  if way.dropWhile (fun x=>decide (x≠par es pa v))=[] then false else
  JH es pa N r (sb.set v.toNat true) (v::way.dropWhile (fun x=>decide (x≠par es pa v))):=rfl
def NY:Int->List Int->Bool
 | _,[]=>true
 | e,h::r=>if h≠2*e/\h≠2*e+1 then false else NY (e+1) r
def HX(es:List Pr)(pa he:List Int)(N:Nat):List Int->Bool
 | []=>true
 | h::r=>if Ae pa (AD es h)=h then HX es pa he N r else
  if Ae he (Aj es h)<=Ae he (AD es h) then false else
  if Gu es pa (N+1) (AD es h) (Aj es h)=true then HX es pa he N r else false
open Classical in
noncomputable def Jz(N:Int)(es:List Pr)(pa he od oi:List Int):Bool:=
 if BX N es/\Len N es.length pa he od oi then
  E4 es pa he oi N.toNat&&(Q2 pa he N.toNat&&(JH es pa N od (List.replicate N.toNat false) []&&(NY 0 oi&&HX es pa he N.toNat oi)))
 else false
def VJ(es:List Pr)(pa he oi:List Int)(N:Nat):Prop:=∀v:Int,0<=v->v<N->FC es pa he oi v=true
def Z5(pa he:List Int)(N:Nat):Prop:=∀v:Int,0<=v->v<N->UO pa he N v=true
theorem ML{es:List Pr}{pa he oi:List Int}{N:Nat}:E4 es pa he oi N=true↔VJ es pa he oi N:=by
 unfold E4 VJ;rw[A2c];constructor
 .intro h v h0 h1;have:=h v.toNat (A1r.2 (by omega));rwa [A3B h0] at this
 intro h v hv;exact h v (by omega) (by have:=A1r.1 hv;omega)
theorem N5{pa he:List Int}{N:Nat}:Q2 pa he N=true↔Z5 pa he N:=by
 unfold Q2 Z5;rw[A2c];constructor
 .intro h v h0 h1;have:=h v.toNat (A1r.2 (by omega));rwa [A3B h0] at this
 intro h v hv;exact h v (by omega) (by have:=A1r.1 hv;omega)
theorem MM{es:List Pr}{pa he oi:List Int}{v:Int}{N:Nat}(hV:BX N es)(h:FC es pa he oi v=true):(0<=Ae pa v->Ae pa v<es.length*2)/\ -1<=par es pa v/\par es pa v<N/\(par es pa v<0↔Ae pa v<0):=by
 have h1:0<=Ae pa v->Ae pa v<es.length*2:=by
  intro h0;unfold FC at h;rw[if_neg (by omega)] at h;split at h
  .cases h
  simp at h;omega
 have hN:=hV.lo;refine⟨h1,?_⟩;unfold par;by_cases h0:Ae pa v<0
 .rw[if_pos h0];omega
 rw[if_neg h0];have:=BE hV (by omega) (h1 (by omega));omega
end Go.Fl
