/- Part 5 of the proof: the library of the walk and the walks, in build order; no condition. -/
import Derived.Test.YtdcddjeifaeiaaaGreatDoorZh4
set_option linter.unusedVariables false
set_option linter.unusedSimpArgs false
set_option linter.unusedSectionVars false
set_option maxRecDepth 100000
namespace Go.Fl
open Go Go.Proofs
structure Qi (N:Nat) (pr:Int->Int) (o:Nat->Int) (a:Int->Int):Prop where
 o0:∀k,k<N->0<=o k/\o k<N
 oa:∀k,k<N->a (o k)=k
 ao:∀v:Int,0<=v->v<N->0<=a v/\a v<N/\o (a v).toNat=v
 prl:∀v:Int,0<=v->v<N->pr v<N
inductive Cy (pr a:Int->Int) (k:Int) (u:Int):Int->Prop
 | refl:Cy pr a k u u
 | step {w:Int} (hk:k<=a w) (hp:0<=pr w) (h:Cy pr a k u (pr w)):Cy pr a k u w
section
variable{N:Nat}{pr a:Int->Int}{o:Nat->Int}{k:Int}{u v w x y:Int}
theorem Cy.split(h:Cy pr a k u w):u=w\/(k<=a w/\0<=pr w/\Cy pr a k u (pr w)):=by
 cases h with
 | refl=>exact .inl rfl
 | step h1 h2 h3=>exact .inr ⟨h1,h2,h3⟩
theorem Cy.mono{k':Int}(h:Cy pr a k u w)(hk:k'<=k):Cy pr a k' u w:=by
 induction h with
 | refl=>exact .refl
 | step h1 h2 _ ih=>exact .step (by omega) h2 ih
theorem Cy.trans(h:Cy pr a k v w)(h':Cy pr a k u v):Cy pr a k u w:=by
 induction h with
 | refl=>exact h'
 | step h1 h2 _ ih=>exact .step h1 h2 ih
theorem Cy.stop(h:Cy pr a k u w)(hw:a w<k):u=w:=by
 cases h with
 | refl=>rfl
 | step h1 _ _=>omega
theorem Cy.uniq(h:Cy pr a k x w)(h':Cy pr a k y w)(hx:a x<k)(hy:a y<k):x=y:=by
 induction h with
 | refl=>exact(h'.stop hx).symm
 | step h1 h2 _ ih=>
  cases h' with
  | refl=>omega
  | step _ _ h3=>exact ih h3
theorem Cy.more{v0:Int}(hP:Qi N pr o a)(hu:∀w:Int,a w=k->0<=w->w<N->w=v0)(h0:a v0=k)(hp:0<=pr v0)(hpk:a (pr v0)<k)(hw0:0<=w)(hw1:w<N):
  Cy pr a k x w↔Cy pr a (k+1) x w\/(x=pr v0/\Cy pr a (k+1) v0 w):=by
 constructor
 .intro h
  induction h with
  | refl=>exact .inl .refl
  | @step w h1 h2 _ ih=>
   have hw:a w=k\/k+1<=a w:=by omega
   rcases ih h2 (hP.prl _ hw0 hw1) with jh|⟨hx,jh⟩
   .rcases hw with hw|hw
    .have e:=hu w hw hw0 hw1;rw[e] at jh ⊢;exact .inr ⟨jh.stop (by omega),.refl⟩
    exact .inl (.step hw h2 jh)
   rcases hw with hw|hw
   .have e:=hu w hw hw0 hw1;rw[e] at jh;have:=jh.stop (by omega);rw[<-this] at hpk;omega
   exact .inr ⟨hx,.step hw h2 jh⟩
 rintro(h|⟨rfl,h⟩)
 .exact h.mono (by omega)
 exact(h.mono (by omega)).trans (.step (by omega) hp .refl)
theorem Cy.same{v0:Int}(hP:Qi N pr o a)(hu:∀w:Int,a w=k->0<=w->w<N->w=v0)(hp:pr v0<0)(hw0:0<=w)(hw1:w<N):Cy pr a k x w↔Cy pr a (k+1) x w:=by
 constructor
 .intro h
  induction h with
  | refl=>exact .refl
  | @step w h1 h2 _ ih=>
   have hw:a w=k\/k+1<=a w:=by omega
   rcases hw with hw|hw
   .obtain rfl:=hu w hw hw0 hw1;omega
   exact .step hw h2 (ih h2 (hP.prl _ hw0 hw1))
 exact fun h=>h.mono (by omega)
def K9(N:Nat)(pr a:Int->Int):Prop:=∀w:Int,0<=w->w<N->0<=pr w->a (pr w)<a w
theorem Cy.low(h:Cy pr a k u w)(hu:a u<k):a u<=a w:=by
 cases h with
 | refl=>exact A2g _
 | step h1 _ _=>omega
theorem Cy.early(hP:Qi N pr o a)(hE:K9 N pr a)(h:Cy pr a k u w)(h0:0<=w)(h1:w<N):a u<=a w:=by
 induction h with
 | refl=>exact A2g _
 | step q1 q2 _ ih=>
  have:=hE _ h0 h1 q2;have:=ih q2 (hP.prl _ h0 h1);omega
theorem Cy.above(hP:Qi N pr o a)(hE:K9 N pr a)(h:Cy pr a k u w)(h0:0<=w)(h1:w<N):Cy pr a (a u+1) u w:=by
 induction h with
 | refl=>exact .refl
 | step q1 q2 q3 ih=>
  have e1:=hE _ h0 h1 q2;have e2:=q3.early hP hE q2 (hP.prl _ h0 h1);exact .step (by omega) q2 (ih q2 (hP.prl _ h0 h1))
def Next(N:Nat)(pr a:Int->Int)(o:Nat->Int):Prop:=∀i:Nat,i<N->0<=pr (o i)->0<i/\Cy pr a 0 (pr (o i)) (o (i-1))
def UC(N:Nat)(pr a:Int->Int)(o:Nat->Int):Prop:=∀i j j':Nat,i<=j->j<=j'->j'<N->Cy pr a 0 (o i) (o j')->Cy pr a 0 (o i) (o j)
theorem I7(hP:Qi N pr o a)(hN:Next N pr a o):K9 N pr a:=by
 have key:∀n:Nat,∀w:Int,0<=w->w<N->a w=n->0<=pr w->a (pr w)<a w:=by
  intro n
  induction n using Nat.strongRecOn with
  | ind n ih=>
   intro w h0 h1 hn hp;obtain⟨a0,a1,ao⟩:=hP.ao w h0 h1;have ho:o n=w:=by rw[hn] at ao;exact ao
   have hnN:n<N:=by omega
   obtain⟨hpos,hanc⟩:=hN n hnN (by rw[ho];exact hp);rw[ho] at hanc;have hx:=hP.o0 (n-1) (by omega);have hax:=hP.oa (n-1) (by omega);have low:∀{x:Int},Cy pr a 0 (pr w) x->0<=x->x<N->a x<n->a (pr w)<=a x:=by
    intro x hx
    induction hx with
    | refl=>intro _ _ _;exact A2g _
    | @step x q1 q2 q3 jh=>
     intro x0 x1 xn;obtain⟨b0,b1,bo⟩:=hP.ao x x0 x1;have:=ih (a x).toNat (by omega) x x0 x1 (by omega) q2;have:=jh q2 (hP.prl _ x0 x1) (by omega);omega
   have:=low hanc hx.1 hx.2 (by omega);omega
 intro w h0 h1 hp;obtain⟨a0,_⟩:=hP.ao w h0 h1;exact key (a w).toNat w h0 h1 (by omega) hp
theorem Rw(hP:Qi N pr o a)(hN:Next N pr a o):UC N pr a o:=by
 intro i j j' hij hjj hj' h;have hE:=I7 hP hN;obtain⟨d,rfl⟩:∃d,j'=j+d:=⟨j'-j,by omega⟩;clear hjj
 induction d with
 | zero=>exact h
 | succ d ih=>
  refine ih (by omega) ?_;have hx:=hP.o0 (j+(d+1)) hj';have hne:o i≠o (j+(d+1)):=by
   intro e;have e1:=hP.oa i (by omega);have e2:=hP.oa (j+(d+1)) hj';rw[e,e2] at e1;omega
  rcases h.split with h|⟨q1,q2,q3⟩
  .exact absurd h hne
  obtain⟨_,h5⟩:=hN (j+(d+1)) hj' q2;exact h5.trans q3
theorem Sn(hP:Qi N pr o a)(hE:K9 N pr a)(hC:UC N pr a o):Next N pr a o:=by
 intro i hi hp;have hx:=hP.o0 i hi;have hpe:=hE _ hx.1 hx.2 hp;rw[hP.oa i hi] at hpe;obtain⟨b0,b1,bo⟩:=hP.ao _ hp (hP.prl _ hx.1 hx.2);refine⟨by omega,?_⟩;have:=hC (a (pr (o i))).toNat (i-1) i (by omega) (by omega) hi (by rw[bo];exact .step (by have:=hP.oa i hi;omega) hp .refl);rwa [bo] at this
end
/-! ### counting a stretch -/
theorem KJ{p q:Nat->Bool}(l:List Nat)(h:∀j∈l,p j=true->q j=true):l.countP p<=l.countP q:=A3R h
theorem cnt_iv(i m N:Nat)(hm:m<N)(him:i<=m):(List.range N).countP (fun j=>decide (i<=j/\j<=m))=m-i+1:=by
 have key:∀n,(List.range n).countP (fun j=>decide (i<=j/\j<=m))=(min n (m+1))-i:=by
  intro n
  induction n with
  | zero=>simp
  | succ n ih=>
   rw[A2p,A2r,ih];by_cases h:i<=n/\n<=m
   .simp[h];omega
   simp[h];omega
 rw[key];omega
theorem Sp{p:Nat->Bool}{i m N:Nat}(hm:m<N)(him:i<=m)(hp:∀j,j<N->p j=true->i<=j/\j<=m):
  (List.range N).countP p<=m-i+1/\((List.range N).countP p=m-i+1↔∀j,i<=j->j<=m->p j=true):=by
 have hq:=cnt_iv i m N hm him;have hle:(List.range N).countP p<=(List.range N).countP (fun j=>decide (i<=j/\j<=m)):=KJ _ fun j hj h=>by simpa using hp j (A1r.1 hj) h
 refine⟨by omega,fun he j h1 h2=>?_,fun h=>?_⟩
 .by_cases hpj:p j=true
  .exact hpj
  exfalso;have h3:(List.range N).countP p+1<=(List.range N).countP (fun j=>decide (i<=j/\j<=m)):=by
   have hsplit:List.range N=List.range j++(j::(List.range (N-j-1)).map (·+(j+1))):=by
    have e1:N=j+(N-j):=by omega
    rw[e1,List.range_add]
    congr 1
    have e2:j+(N-j)-j-1=N-j-1:=by omega
    rw[e2];obtain⟨d,hd⟩:∃d,N-j=d+1:=⟨N-j-1,by omega⟩;rw[hd,List.range_succ_eq_map];simp only[A1M,A3H,A2x,A3w]
    congr 1
    apply A2I;intro x _;simp;omega
   have hle1:(List.range j).countP p<=(List.range j).countP (fun j=>decide (i<=j/\j<=m)):=KJ _ fun x hx h=>by simpa using hp x (by have:=A1r.1 hx;omega) h
   have hle2:((List.range (N-j-1)).map (·+(j+1))).countP p<=((List.range (N-j-1)).map (·+(j+1))).countP (fun j=>decide (i<=j/\j<=m)):=KJ _ fun x hx h=>by
    simp only[A1G,A1r] at hx;obtain⟨y,hy,rfl⟩:=hx;simpa using hp _ (by omega) h
   have hj:decide (i<=j/\j<=m)=true:=by simp;omega
   have hpj':p j=false:=by simpa using hpj
   rw[hsplit,A2r,A2r,A1Q,A1Q,hj,hpj'];simp only[if_true];have:(if false=true then 1 else 0)=0:=rfl;rw[this];omega
  omega
 have:(List.range N).countP (fun j=>decide (i<=j/\j<=m))<=(List.range N).countP p:=KJ _ fun j hj h1=>by
  simp only[decide_eq_true_eq] at h1;exact h j h1.1 h1.2
 omega
theorem Zn{p q r:Nat->Bool}:∀(l:List Nat),(∀j∈l,r j=(p j||q j))->(∀j∈l,¬(p j=true/\q j=true))->l.countP r=l.countP p+l.countP q
 | [],_,_=>rfl
 | x::l,h1,h2=>by
  have ih:=Zn l (fun j hj=>h1 j (A1q _ hj)) (fun j hj=>h2 j (A1q _ hj));have e1:=h1 x (A1m ..);have e2:=h2 x (A1m ..);rw[A1Q,A1Q,A1Q,ih,e1];cases hp:p x<;>cases hq:q x<;>simp_all<;>omega
noncomputable def ab(pr a:Int->Int)(k u w:Int):Bool:=@decide (Cy pr a k u w) (Classical.propDecidable _)
theorem EK{pr a:Int->Int}{k u w:Int}:ab pr a k u w=true↔Cy pr a k u w:=by
 unfold ab;constructor
 .intro h;exact @of_decide_eq_true _ (Classical.propDecidable _) h
 intro h;exact @decide_eq_true _ (Classical.propDecidable _) h
structure Sz (N:Nat) (pr a:Int->Int) (o:Nat->Int) (k:Nat) (sz la:List Int):Prop where
 ls:sz.length=N
 ll:la.length=N
 s:∀x:Int,0<=x->x<N->a x<k->Ae sz x=((List.range N).countP fun j=>ab pr a k x (o j))
 l0:∀x:Int,0<=x->x<N->∃m:Nat,Ae la x=m/\m<N/\Cy pr a k x (o m)/\∀j:Nat,j<N->Cy pr a k x (o j)->j<=m
def Full(N:Nat)(pr a:Int->Int)(o:Nat->Int)(i:Nat):Prop:=∀j j':Nat,i<=j->j<=j'->j'<N->Cy pr a (i+1:Nat) (o i) (o j')->Cy pr a (i+1:Nat) (o i) (o j)
section
variable{N:Nat}{pr a:Int->Int}{o:Nat->Int}{k:Nat}{sz la:List Int}
theorem Sz.check(hP:Qi N pr o a)(hN:N<=1048576)(h:Sz N pr a o (k+1) sz la)(hk:k<N):
  Ae la (o k)=wr (wr (a (o k)+Ae sz (o k))-1)↔Full N pr a o k:=by
 have ho:=hP.o0 k hk;have hao:=hP.oa k hk;obtain⟨m,hm,hmN,hmA,hmax⟩:=h.l0 _ ho.1 ho.2;have hs:=h.s _ ho.1 ho.2 (by omega);have hge:∀j:Nat,j<N->Cy pr a (k+1:Nat) (o k) (o j)->k<=j:=by
  intro j hj hA;have:=hA.low (by omega);rw[hP.oa j hj] at this;omega
 have hkm:=hge m hmN hmA;obtain⟨c1,c2⟩:=Sp (p:=fun j=>ab pr a (k+1:Nat) (o k) (o j)) (N:=N) hmN hkm (fun j hj hp=>by
  have hp:=EK.1 hp;exact⟨hge j hj hp,hmax j hj hp⟩);rw[hm,hs,hao];generalize (List.range N).countP (fun j=>ab pr a (k+1:Nat) (o k) (o j))=C at c1 c2 ⊢;have e1:wr ((k:Int)+C)=(k:Int)+C:=DY (by omega);rw[e1];have e2:wr ((k:Int)+C-1)=(k:Int)+C-1:=DY (by omega);rw[e2];constructor
 .intro he;have hall:=c2.1 (by omega);intro j j' h1 h2 h3 h4;exact EK.1 (hall j h1 (by have:=hmax j' h3 h4;omega))
 intro hF;have:=c2.2 fun j h1 h2=>EK.2 (hF j m h1 h2 hmN hmA);omega
theorem Qi.uniq(hP:Qi N pr o a)(hk:k<N):∀w:Int,a w=k->0<=w->w<N->w=o k:=by
 intro w h0 h1 h2;have:=(hP.ao w h1 h2).2.2;rw[h0] at this;simpa using this.symm
theorem OE{p q:Nat->Bool}(l:List Nat)(h:∀j∈l,p j=q j):l.countP p=l.countP q:=
 Nat.le_antisymm (KJ l fun j hj hp=>by rw[<-h j hj];exact hp) (KJ l fun j hj hp=>by rw[h j hj];exact hp)
theorem SH{k':Int}{u w x y:Int}(h:Cy pr a k u w↔Cy pr a k' x y):ab pr a k u w=ab pr a k' x y:=by
 cases h1:ab pr a k u w with
 | true=>exact(EK.2 (h.1 (EK.1 h1))).symm
 | false=>
  cases h2:ab pr a k' x y with
  | false=>rfl
  | true=>rw[EK.2 (h.2 (EK.1 h2))] at h1;cases h1
theorem Sz.stay(hP:Qi N pr o a)(h:Sz N pr a o (k+1) sz la)(hk:k<N)(hp:pr (o k)<0):Sz N pr a o k sz la:=by
 have hsame:∀(x w:Int),0<=w->w<N->(Cy pr a k x w↔Cy pr a (k+1:Nat) x w):=fun x w w0 w1=>Cy.same hP (hP.uniq hk) hp w0 w1;refine⟨h.ls,h.ll,fun x h0 h1 h2=>?_,fun x h0 h1=>?_⟩
 .rw[h.s x h0 h1 (by omega)]
  congr 1
  exact(OE _ fun j hj=>SH (hsame x (o j) (hP.o0 j (A1r.1 hj)).1 (hP.o0 j (A1r.1 hj)).2)).symm
 obtain⟨m,h3,h4,h5,h6⟩:=h.l0 x h0 h1;exact⟨m,h3,h4,(hsame x _ (hP.o0 m h4).1 (hP.o0 m h4).2).2 h5,fun j hj hA=>h6 j hj ((hsame x _ (hP.o0 j hj).1 (hP.o0 j hj).2).1 hA)⟩
theorem Sz.join(hP:Qi N pr o a)(hN:N<=1048576)(h:Sz N pr a o (k+1) sz la)(hk:k<N)(hp:0<=pr (o k))(hpk:a (pr (o k))<k):
  Sz N pr a o k (sz.set (pr (o k)).toNat (wr (Ae sz (pr (o k))+Ae sz (o k)))) (la.set (pr (o k)).toNat (max (Ae la (pr (o k))) (Ae la (o k)))):=by
 have ho:=hP.o0 k hk;have hao:=hP.oa k hk;have hpN:=hP.prl _ ho.1 ho.2;have hmore:∀(x w:Int),0<=w->w<N->(Cy pr a k x w↔Cy pr a (k+1:Nat) x w\/(x=pr (o k)/\Cy pr a (k+1:Nat) (o k) w)):=fun x w w0 w1=>Cy.more hP (hP.uniq hk) hao hp hpk w0 w1;have hne:pr (o k)≠o k:=fun e=>by rw[e,hao] at hpk;omega
 have hother:∀(x w:Int),x≠pr (o k)->0<=w->w<N->(Cy pr a k x w↔Cy pr a (k+1:Nat) x w):=fun x w hx w0 w1=>
  ⟨fun hA=>((hmore x w w0 w1).1 hA).elim id (fun q=>absurd q.1 hx),fun hA=>(hmore x w w0 w1).2 (.inl hA)⟩;refine⟨by simp[h.ls],by simp[h.ll],fun x h0 h1 h2=>?_,fun x h0 h1=>?_⟩
 .rw[CX hp (by rw[h.ls];omega) h0];by_cases hx:x=pr (o k)
  .rw[if_pos hx];have s1:=h.s _ hp hpN (by omega);have s2:=h.s _ ho.1 ho.2 (by omega);have hor:=Zn (p:=fun j=>ab pr a (k+1:Nat) (pr (o k)) (o j)) (q:=fun j=>ab pr a (k+1:Nat) (o k) (o j)) (r:=fun j=>ab pr a k x (o j)) (List.range N) (fun j hj=>by
     have hj:=A1r.1 hj;have hh:=hmore x (o j) (hP.o0 j hj).1 (hP.o0 j hj).2;rw[A3a,Bool.or_eq_true,EK,EK,EK,hh,hx];simp) (fun j hj hb=>by
     have h3:=EK.1 hb.1;have h4:=EK.1 hb.2;exact hne (h3.uniq h4 (by omega) (by omega)));have b1:(List.range N).countP (fun j=>ab pr a k x (o j))<=N:=by have:=A2n (p:=fun j=>ab pr a k x (o j)) (l:=List.range N);simpa using this
   rw[s1,s2,hor];rw[hor] at b1;rw[wr,DY (by omega)];omega
  rw[if_neg hx,h.s x h0 h1 (by omega)]
  congr 1
  exact(OE _ fun j hj=>SH (hother x (o j) hx (hP.o0 j (A1r.1 hj)).1 (hP.o0 j (A1r.1 hj)).2)).symm
 rw[CX hp (by rw[h.ll];omega) h0];obtain⟨m,h3,h4,h5,h6⟩:=h.l0 x h0 h1;by_cases hx:x=pr (o k)
 .rw[if_pos hx];obtain⟨m2,g3,g4,g5,g6⟩:=h.l0 _ ho.1 ho.2;rw[<-hx,h3,g3];refine⟨max m m2,by omega,by omega,?_,fun j hj hA=>?_⟩
  .rcases Nat.le_total m m2 with hle|hle
   .rw[Nat.max_eq_right hle];exact(hmore x _ (hP.o0 m2 g4).1 (hP.o0 m2 g4).2).2 (.inr ⟨hx,g5⟩)
   rw[Nat.max_eq_left hle];exact(hmore x _ (hP.o0 m h4).1 (hP.o0 m h4).2).2 (.inl h5)
  rcases(hmore x _ (hP.o0 j hj).1 (hP.o0 j hj).2).1 hA with q|⟨_,q⟩
  .have:=h6 j hj q;omega
  have:=g6 j hj q;omega
 rw[if_neg hx];exact⟨m,h3,h4,(hother x _ hx (hP.o0 m h4).1 (hP.o0 m h4).2).2 h5,fun j hj hA=>h6 j hj ((hother x _ hx (hP.o0 j hj).1 (hP.o0 j hj).2).1 hA)⟩
end
theorem S4{l:List Int}(h:Cs l=0):∀x∈l,0<=x:=by
 intro x hx;unfold Cs at h;have:=A3v.1 h x hx;simp at this;exact this
/-! ### places -/
structure Z8 (N:Nat) (od:List Int) (i:Nat) (at':List Int):Prop where
 l:at'.length=N
 ile:i<=N
 b:∀v:Int,0<=v->v<N->0<=Ae at' v->Ae at' v<i/\Ae od (Ae at' v)=v
 f:∀k:Nat,k<i->0<=Ae od k/\Ae od k<N/\Ae at' (Ae od k)=k
 u:Cs at'+i=N
theorem Rc{N:Nat}{od:List Int}(hl:od.length=N):∀(d i:Nat) {at' b:List Int},i+d=N->Z8 N od i at'->C4 N (od.drop i) i at'=some b->Z8 N od N b:=by
 intro d
 induction d with
 | zero=>
  intro i at' b hi hI h;obtain rfl:i=N:=by omega
  rw[<-hl,A3L] at h;cases h;exact hI
 | succ d ih=>
  intro i at' b hi hI h;have hlt:i<od.length:=by omega
  have hd:od.drop i=Ae od i::od.drop (i+1):=by rw[A2e hlt,EF,A1d hlt];rfl
  rw[hd,FH] at h;split at h
  .cases h
  rename_i hn;obtain⟨v,hv⟩:∃v,v=Ae od i:=⟨_,rfl⟩;rw[<-hv] at h hn;have hv0:0<=v:=by omega
  have hv1:v<N:=by omega
  have hneg:Ae at' v<0:=by omega
  refine ih (i+1) (by omega) ?_ h;have hset:=fun(x:Int) (hx:0<=x)=>CX (x:=(i:Int)) hv0 (by rw[hI.l];omega) hx;refine⟨by simp[hI.l],by omega,fun x x0 x1 hx=>?_,fun k hk=>?_,?_⟩
  .rw[hset x x0] at hx ⊢;by_cases he:x=v
   .rw[if_pos he];exact⟨by omega,by rw[he];exact hv.symm⟩
   rw[if_neg he] at hx ⊢;have:=hI.b x x0 x1 hx;exact⟨by omega,this.2⟩
  .rcases A1i.1 hk with hk|rfl
   .obtain⟨f1,f2,f3⟩:=hI.f k hk;refine⟨f1,f2,?_⟩;rw[hset _ f1];by_cases he:Ae od k=v
    .rw[he] at f3;omega
    rw[if_neg he];exact f3
   rw[<-hv];exact⟨hv0,hv1,by rw[hset v hv0,if_pos rfl]⟩
  have:=NS (l:=at') (i:=v.toNat) (x:=(i:Int)) hneg (by omega);have:=hI.u;omega
theorem plInv0(N:Nat)(od:List Int):Z8 N od 0 (List.replicate N (-1)):=by
 refine⟨by simp,A1E _,fun v h0 h1 h2=>?_,fun k hk=>by omega,?_⟩
 .unfold Ae at h2;rw[A2h,if_pos (by omega)] at h2;simp at h2
 unfold Cs;rw[List.countP_replicate];simp
theorem Re{N:Nat}{od at':List Int}{pr:Int->Int}(hl:od.length=N)(hpr:∀v:Int,0<=v->v<N->pr v<N)(h:C4 N od 0 (List.replicate N (-1))=some at'):
  at'.length=N/\Qi N pr (fun k=>Ae od k) (Ae at'):=by
 have hI:=Rc hl N 0 (by omega) (plInv0 N od) (by simpa using h);refine⟨hI.l,fun k hk=>⟨(hI.f k hk).1,(hI.f k hk).2.1⟩,fun k hk=>(hI.f k hk).2.2,fun v h0 h1=>?_,hpr⟩;have hu:Cs at'=0:=by have:=hI.u;omega
 have hge:0<=Ae at' v:=S4 hu _ (A1h (BM (l:=at') (i:=v) (by rw[hI.l];omega)));obtain⟨b1,b2⟩:=hI.b v h0 h1 hge;exact⟨hge,b1,by rw[A3B hge];exact b2⟩
theorem H4{es:List Pr}{pa:List Int}{N:Nat}:∀(r:List Int) (i:Int) (at':List Int) (sb:List Bool) (way:List Int),at'.length=N->sb.length=N->0<=i->
  (∀v:Int,0<=v->v<N->((sb[v.toNat]?).getD false=true↔0<=Ae at' v))->JH es pa N r sb way=true->∃b,C4 N r i at'=some b
 | [],i,at',sb,way,_,_,_,_,_=>⟨_,rfl⟩
 | v::r,i,at',sb,way,hl,hs,hi,hsame,h=>by
  rw[Oh] at h;rw[FH];split at h
  .cases h
  rename_i hn;have hv0:0<=v:=by omega
  have hv1:v<N:=by omega
  have hb:¬0<=Ae at' v:=fun q=>hn (.inr (.inr ((hsame v hv0 hv1).2 q)));rw[if_neg (by omega)];have hsame':∀x:Int,0<=x->x<N->(((sb.set v.toNat true)[x.toNat]?).getD false=true↔0<=Ae (at'.set v.toNat i) x):=by
   intro x x0 x1;rw[CX hv0 (by omega) x0];by_cases he:x=v
   .rw[he,A2A (by omega),if_pos rfl];simp[hi]
   rw[A2E (by omega),if_neg he];exact hsame x x0 x1
  split at h
  .exact H4 r (i+1) _ _ _ (by simp[hl]) (by simp[hs]) (by omega) hsame' h
  split at h
  .cases h
  exact H4 r (i+1) _ _ _ (by simp[hl]) (by simp[hs]) (by omega) hsame' h
/-! ### the way -/
inductive Ch (pr:Int->Int):List Int->Prop
 | root {x:Int} (h:pr x<0):Ch pr [x]
 | cons {x:Int} {l:List Int} (h:0<=pr x) (r:Ch pr (pr x::l)):Ch pr (x::pr x::l)
section
variable{N:Nat}{pr a:Int->Int}{o:Nat->Int}
theorem ch_mem{l:List Int}(hc:Ch pr l)(ha:∀x∈l,0<=a x):∀{x:Int} {r:List Int},l=x::r->∀p:Int,(p∈l↔Cy pr a 0 p x):=by
 induction hc with
 | root h=>
  intro x r e p;cases e;constructor
  .intro hp;simp at hp;rw[hp];exact .refl
  intro hA;rcases hA.split with e|⟨_,q,_⟩
  .simp[e]
  omega
 | @cons y l h r ih=>
  intro x r' e p;cases e;have ih:=ih (fun z hz=>ha z (A1q _ hz)) rfl p;constructor
  .intro hp;rcases A1H.1 hp with e|hp
   .rw[e];exact .refl
   exact .step (ha y (A1m ..)) h (ih.1 hp)
  intro hA;rcases hA.split with e|⟨_,_,q⟩
  .rw[e];exact A1m ..
  exact A1q _ (ih.2 q)
theorem ch_drop{l:List Int}(hc:Ch pr l){p:Int}(hp:p∈l):∃r,l.dropWhile (fun x=>decide (x≠p))=p::r/\Ch pr (p::r)/\∀x∈p::r,x∈l:=by
 induction hc with
 | @root x h=>
  simp at hp;subst hp;exact⟨[],by rw[List.dropWhile_cons_of_neg (by simp)],.root h,fun x hx=>hx⟩
 | @cons y l h r ih=>
  by_cases he:y=p
  .subst he;exact⟨_,by rw[List.dropWhile_cons_of_neg (by simp)],.cons h r,fun x hx=>hx⟩
  rcases A1H.1 hp with e|hp
  .exact absurd e.symm he
  obtain⟨s,h1,h2,h3⟩:=ih hp;exact⟨s,by rw[List.dropWhile_cons_of_pos (by simpa using he)];exact h1,h2,fun x hx=>A1q _ (h3 x hx)⟩
theorem WP{l:List Int}{p:Int}(hp:¬p∈l):l.dropWhile (fun x=>decide (x≠p))=[]:=by
 induction l with
 | nil=>rfl
 | cons x r ih=>
  rw[List.dropWhile_cons_of_pos (by simp;intro e;exact hp (by rw[e];exact A1m ..))];exact ih fun h=>hp (A1q _ h)
end
def Jk(pr a:Int->Int)(o:Nat->Int)(i:Nat):Prop:=0<=pr (o i)->0<i/\Cy pr a 0 (pr (o i)) (o (i-1))
theorem Rp{es:List Pr}{pa od at':List Int}{N:Nat}(hl:od.length=N)(hP:Qi N (par es pa) (fun k=>Ae od k) (Ae at')):
  ∀(d i:Nat) (sb:List Bool) (way:List Int),i+d=N->sb.length=N->(∀v:Int,0<=v->v<N->((sb[v.toNat]?).getD false=true↔Ae at' v<i))->(i=0->way=[])->(∀x∈way,0<=x/\x<N)->
   (0<i->Ch (par es pa) way/\∃r,way=Ae od (i-1:Nat)::r)->(JH es pa N (od.drop i) sb way=true↔∀j,i<=j->j<N->Jk (par es pa) (Ae at') (fun k=>Ae od k) j):=by
 intro d
 induction d with
 | zero=>
  intro i sb way hi _ _ _ _ _;obtain rfl:i=N:=by omega
  rw[<-hl,A3L];exact⟨fun _ j h1 h2=>by omega,fun _=>rfl⟩
 | succ d ih=>
  intro i sb way hi hsb hsame h0 hrange hch;have hlt:i<od.length:=by omega
  have hd:od.drop i=Ae od i::od.drop (i+1):=by rw[A2e hlt,EF,A1d hlt];rfl
  obtain⟨v,hv⟩:∃v,v=Ae od i:=⟨_,rfl⟩;obtain⟨o1,o2⟩:=hP.o0 i (by omega);have oa:=hP.oa i (by omega);rw[<-hv] at o1 o2 oa;rw[hd,Oh,<-hv];have hseen:¬(sb[v.toNat]?).getD false=true:=fun q=>by have:=(hsame v o1 o2).1 q;omega
  have hno:¬(v<0\/(N:Int)<=v\/(sb[v.toNat]?).getD false=true):=by
   rintro(h|h|h)
   .omega
   .omega
   exact hseen h
  rw[if_neg hno];have hsame':∀x:Int,0<=x->x<N->(((sb.set v.toNat true)[x.toNat]?).getD false=true↔Ae at' x<(i+1:Nat)):=by
   intro x x0 x1;by_cases he:x=v
   .rw[he,A2A (by omega),oa];simp;omega
   rw[A2E (by omega),hsame x x0 x1];constructor
   .intro q;omega
   intro q;have hne:Ae at' x≠i:=fun e=>he (by rw[hv];exact hP.uniq (by omega) x e x0 x1);omega
  have split:(∀j,i<=j->j<N->Jk (par es pa) (Ae at') (fun k=>Ae od k) j)↔Jk (par es pa) (Ae at') (fun k=>Ae od k) i/\∀j,i+1<=j->j<N->Jk (par es pa) (Ae at') (fun k=>Ae od k) j:=by
   constructor
   .intro h;exact⟨h i (A1F _) (by omega),fun j h1 h2=>h j (by omega) h2⟩
   rintro⟨h1,h2⟩ j h3 h4;rcases Nat.lt_or_eq_of_le h3 with h5|h5
   .exact h2 j h5 h4
   rw[<-h5];exact h1
  by_cases hp:par es pa v<0
  .rw[if_pos hp,split];have hn:Jk (par es pa) (Ae at') (fun k=>Ae od k) i:=fun q=>by dsimp only at q;rw[<-hv] at q;omega
   rw[ih (i+1) _ [v] (by omega) (by simp[hsb]) hsame' (by omega) (fun x hx=>by simp at hx;rw[hx];exact⟨o1,o2⟩) (fun _=>⟨.root hp,[],by simp[hv]⟩)];exact⟨fun h=>⟨hn,h⟩,fun h=>h.2⟩
  rw[if_neg hp,split];have hiff:(par es pa v)∈way↔Jk (par es pa) (Ae at') (fun k=>Ae od k) i:=by
   unfold Jk;dsimp only;rw[<-hv];by_cases hi0:0<i
   .obtain⟨c1,r,c2⟩:=hch hi0;have:=ch_mem (a:=Ae at') c1 (fun x hx=>(hP.ao x (hrange x hx).1 (hrange x hx).2).1) c2 (par es pa v);rw[this];exact⟨fun h _=>⟨hi0,h⟩,fun h=>(h (by omega)).2⟩
   rw[h0 (by omega)];constructor
   .intro h;simp at h
   intro h;have:=(h (by omega)).1;omega
  by_cases hm:par es pa v∈way
  .have hi0:0<i:=by
    rcases Nat.eq_zero_or_pos i with e|e
    .rw[h0 e] at hm;simp at hm
    exact e
   obtain⟨c1,_⟩:=hch hi0;obtain⟨r,e1,e2,e3⟩:=ch_drop c1 hm;rw[e1,if_neg (by simp),ih (i+1) _ (v::par es pa v::r) (by omega) (by simp[hsb]) hsame' (by omega) (fun x hx=>by
    rcases A1H.1 hx with e|hx
    .rw[e];exact⟨o1,o2⟩
    exact hrange x (e3 x hx)) (fun _=>⟨.cons (by omega) e2,_,by simp[hv];rfl⟩)];exact⟨fun h=>⟨hiff.1 hm,h⟩,fun h=>h.2⟩
  rw[WP hm,if_pos rfl];constructor
  .intro h;cases h
  intro h;exact absurd (hiff.2 h.1) hm
/-! ### size and last -/
theorem A0D{es:List Pr}{pa od at':List Int}{N:Nat}(hN:N<=1048576)(hP:Qi N (par es pa) (fun k=>Ae od k) (Ae at'))(hq:∀v:Int,0<=v->v<N->(par es pa v<0↔Ae pa v<0)):
  ∀(k:Nat) (sz la:List Int),k<=N->Sz N (par es pa) (Ae at') (fun k=>Ae od k) k sz la->
   ((∃r,VV es pa od at' k sz la=some r)↔∀i,i<k->Full N (par es pa) (Ae at') (fun k=>Ae od k) i/\(0<=par es pa (Ae od i)->Ae at' (par es pa (Ae od i))<i))/\
   ∀r,VV es pa od at' k sz la=some r->Sz N (par es pa) (Ae at') (fun k=>Ae od k) 0 r.1 r.2:=by
 intro k
 induction k with
 | zero=>
  intro sz la _ hS;exact⟨⟨fun _ i hi=>by omega,fun _=>⟨_,rfl⟩⟩,fun r hr=>by cases hr;exact hS⟩
 | succ k ih=>
  intro sz la hk hS;have ho:=hP.o0 k (by omega);have hck:=hS.check hP hN (by omega);rw[QJ];by_cases hF:Full N (par es pa) (Ae at') (fun k=>Ae od k) k
  .rw[if_neg (by rw[A3o];exact hck.2 hF)];by_cases hp:Ae pa (Ae od k)<0
   .rw[if_pos hp];have hp':=(hq _ ho.1 ho.2).2 hp;obtain⟨i1,i2⟩:=ih sz la (by omega) (hS.stay hP (by omega) hp');refine⟨i1.trans ⟨fun h i hi=>?_,fun h i hi=>h i (by omega)⟩,i2⟩;rcases A1i.1 hi with hi|rfl
    .exact h i hi
    exact⟨hF,fun q=>by omega⟩
   rw[if_neg hp];have hpe:Aj es (Ae pa (Ae od k))=par es pa (Ae od k):=by unfold par;rw[if_neg hp]
   have hp':0<=par es pa (Ae od k):=by
    have:=hq _ ho.1 ho.2;by_cases h0:par es pa (Ae od k)<0
    .exact absurd (this.1 h0) hp
    omega
   rw[hpe];by_cases hE:Ae at' (par es pa (Ae od k))<k
   .rw[if_neg (by omega)];obtain⟨i1,i2⟩:=ih _ _ (by omega) (hS.join hP hN (by omega) hp' hE);refine⟨i1.trans ⟨fun h i hi=>?_,fun h i hi=>h i (by omega)⟩,i2⟩;rcases A1i.1 hi with hi|rfl
    .exact h i hi
    exact⟨hF,fun _=>hE⟩
   rw[if_pos (by omega)];refine⟨⟨fun⟨r,hr⟩=>(by cases hr),fun h=>absurd ((h k (by omega)).2 hp') hE⟩,fun r hr=>by cases hr⟩
  rw[if_pos (fun e=>hF (hck.1 e))];exact⟨⟨fun⟨r,hr⟩=>(by cases hr),fun h=>absurd (h k (by omega)).1 hF⟩,fun r hr=>by cases hr⟩
theorem sz0{N:Nat}{pr:Int->Int}{od at':List Int}(hl:at'.length=N)(hP:Qi N pr (fun k=>Ae od k) (Ae at')):Sz N pr (Ae at') (fun k=>Ae od k) N (List.replicate N 1) at':=by
 have only:∀(x:Int) (j:Nat),j<N->Cy pr (Ae at') N x (Ae od j)->x=Ae od j:=fun x j hj hA=>hA.stop (by have:=hP.oa j hj;omega);refine⟨by simp,hl,fun x h0 h1 h2=>?_,fun x h0 h1=>?_⟩
 .have e1:Ae (List.replicate N 1) x=1:=by unfold Ae;rw[A2h,if_pos (by omega)];rfl
  rw[e1];obtain⟨a0,a1,ao⟩:=hP.ao x h0 h1;obtain⟨c1,c2⟩:=Sp (p:=fun j=>ab pr (Ae at') N x (Ae od j)) (i:=(Ae at' x).toNat) (m:=(Ae at' x).toNat) (N:=N) (by omega) (A1F _) (fun j hj hp=>by
   have:=only x j hj (EK.1 hp);have:=hP.oa j hj;rw[<-‹x=Ae od j›] at this;omega);have:=c2.2 (fun j h3 h4=>EK.2 (by rw[show j=(Ae at' x).toNat by omega,ao];exact .refl));rw[this];simp
 obtain⟨a0,a1,ao⟩:=hP.ao x h0 h1;refine⟨(Ae at' x).toNat,by omega,by omega,?_,fun j hj hA=>?_⟩
 .rw[ao];exact .refl
 have:=only x j hj hA;have h5:=hP.oa j hj;rw[<-this] at h5;omega
theorem YU{N:Nat}{pr a:Int->Int}{o:Nat->Int}(hP:Qi N pr o a):(∀i,i<N->Full N pr a o i/\(0<=pr (o i)->a (pr (o i))<i))↔K9 N pr a/\UC N pr a o:=by
 have full_anc:K9 N pr a->∀(i j:Nat),i<N->j<N->(Cy pr a (i+1:Nat) (o i) (o j)↔Cy pr a 0 (o i) (o j)):=by
  intro hE i j hi hj;have hj':=hP.o0 j hj;constructor
  .intro h;exact h.mono (by omega)
  intro h;have:=h.above hP hE hj'.1 hj'.2;rw[hP.oa i hi] at this;exact this
 constructor
 .intro h;have hE:K9 N pr a:=by
   intro w w0 w1 hp;obtain⟨a0,a1,ao⟩:=hP.ao w w0 w1;have:=(h (a w).toNat (by omega)).2 (by rw[ao];exact hp);rw[ao] at this;omega
  refine⟨hE,fun i j j' h1 h2 h3 h4=>?_⟩;have:=(h i (by omega)).1 j j' h1 h2 h3 ((full_anc hE i j' (by omega) h3).2 h4);exact(full_anc hE i j (by omega) (by omega)).1 this
 rintro⟨hE,hC⟩ i hi;refine⟨fun j j' h1 h2 h3 h4=>?_,fun hp=>?_⟩
 .exact(full_anc hE i j hi (by omega)).2 (hC i j j' h1 h2 h3 ((full_anc hE i j' hi h3).1 h4))
 have ho:=hP.o0 i hi;have:=hE _ ho.1 ho.2 hp;rw[hP.oa i hi] at this;exact this
/-! ### the edges -/
theorem KE{es:List Pr}{pa at' la:List Int}:∀{oi:List Int} {e:Int},H7 es pa at' la e oi=true↔∀(j:Nat) h,oi[j]? =some h->(h=2*(e+j)\/h=2*(e+j)+1)/\
  (Ae pa (AD es h)=h\/(Ae at' (AD es h)<Ae at' (Aj es h)/\Ae at' (Aj es h)<=Ae la (AD es h)))
 | [],e=>by simp[H7]
 | x::r,e=>by
  rw[MC];constructor
  .intro hl j h hj;split at hl
   .cases hl
   split at hl
   .cases hl
   match j,hj with
   | 0,hj=>simp at hj;subst hj;omega
   | j+1,hj=>
    simp at hj;have:=KE.1 hl j h hj;refine⟨by omega,this.2⟩
  intro hl;have h0:=hl 0 x rfl;rw[if_neg (by omega),if_neg (by omega)];refine KE.2 fun j h hj=>?_;have:=hl (j+1) h (by simpa using hj);exact⟨by omega,this.2⟩
theorem Io:∀{oi:List Int} {e:Int},NY e oi=true↔∀(j:Nat) h,oi[j]? =some h->h=2*(e+j)\/h=2*(e+j)+1
 | [],e=>by simp[NY]
 | x::r,e=>by
  show(if x≠2*e/\x≠2*e+1 then false else NY (e+1) r)=true↔_;constructor
  .intro hl j h hj;split at hl
   .cases hl
   match j,hj with
   | 0,hj=>simp at hj;subst hj;omega
   | j+1,hj=>
    simp at hj;have:=Io.1 hl j h hj;omega
  intro hl;have h0:=hl 0 x rfl;rw[if_neg (by omega)];refine Io.2 fun j h hj=>?_;have:=hl (j+1) h (by simpa using hj);omega
theorem I2{es:List Pr}{pa he:List Int}{N:Nat}:∀{oi:List Int},HX es pa he N oi=true↔∀h∈oi,Ae pa (AD es h)=h\/(Ae he (AD es h)<Ae he (Aj es h)/\Gu es pa (N+1) (AD es h) (Aj es h)=true)
 | []=>by simp[HX]
 | x::r=>by
  have ih:=I2 (es:=es) (pa:=pa) (he:=he) (N:=N) (oi:=r);show(if Ae pa (AD es x)=x then HX es pa he N r else if Ae he (Aj es x)<=Ae he (AD es x) then false else
   if Gu es pa (N+1) (AD es x) (Aj es x)=true then HX es pa he N r else false)=true↔_;rw[List.forall_mem_cons];by_cases h1:Ae pa (AD es x)=x
  .rw[if_pos h1,ih];exact⟨fun h=>⟨.inl h1,h⟩,fun h=>h.2⟩
  rw[if_neg h1];by_cases h2:Ae he (Aj es x)<=Ae he (AD es x)
  .rw[if_pos h2];constructor
   .intro h;cases h
   rintro⟨h|h,_⟩
   .exact absurd h h1
   omega
  rw[if_neg h2];by_cases h3:Gu es pa (N+1) (AD es x) (Aj es x)=true
  .rw[if_pos h3,ih];exact⟨fun h=>⟨.inr ⟨by omega,h3⟩,h⟩,fun h=>h.2⟩
  rw[if_neg h3];constructor
  .intro h;cases h
  rintro⟨h|h,_⟩
  .exact absurd h h1
  exact absurd h.2 h3
theorem heights{es:List Pr}{pa he oi:List Int}{N:Nat}{a:Int->Int}{o:Nat->Int}(hV:BX N es)(hH:VJ es pa he oi N)(hP:Qi N (par es pa) o a)(hE:K9 N (par es pa) a):
  ∀(n:Nat) (v:Int),0<=v->v<N->a v=n->0<=Ae he v/\Ae he v<=n/\(Ae he v=0↔Ae pa v= -1)/\(0<=par es pa v->Ae he v=Ae he (par es pa v)+1):=by
 intro n;have hN:=hV.hi
 induction n using Nat.strongRecOn with
 | ind n ih=>
  intro v v0 v1 hn;have hh:=hH v v0 v1;obtain⟨q1,q2,q3,q4⟩:=MM hV hh;unfold FC at hh;by_cases hr:Ae pa v= -1
  .rw[if_pos hr] at hh;have h0:Ae he v=0:=by simpa using hh
   exact⟨by omega,by omega,⟨fun _=>hr,fun _=>h0⟩,fun h=>by have:=q4.2 (by omega);omega⟩
  rw[if_neg hr] at hh;split at hh
  .cases hh
  rename_i hcond;simp only[decide_eq_true_eq] at hh;have hpa:¬Ae pa v<0:=by omega
  have hpe:par es pa v=Aj es (Ae pa v):=by unfold par;rw[if_neg hpa]
  have hp0:0<=par es pa v:=by
   by_cases h0:par es pa v<0
   .exact absurd (q4.1 h0) hpa
   omega
  have he:=hE v v0 v1 hp0;obtain⟨b0,b1,bo⟩:=hP.ao _ hp0 q3;obtain⟨r1,r2,r3,r4⟩:=ih (a (par es pa v)).toNat (by omega) _ hp0 q3 (by omega);have h5:=hh.2;rw[<-hpe,wr,DY (by omega)] at h5;exact⟨by omega,by omega,⟨fun h=>by omega,fun h=>absurd h hr⟩,fun _=>h5⟩
theorem M8{es:List Pr}{pa he:List Int}{N:Nat}{a:Int->Int}{o:Nat->Int}(hP:Qi N (par es pa) o a)(hr:∀v:Int,0<=v->v<N->0<=Ae he v/\(0<=par es pa v->Ae he v=Ae he (par es pa v)+1))(u:Int)(hu:0<=u):
  ∀(k:Nat) (v:Int),v<N->(0<=v->Ae he v<k)->(Gu es pa (k+1) u v=true↔0<=v/\Cy (par es pa) a 0 u v):=by
 intro k
 induction k with
 | zero=>
  intro v v1 hk;have:v<0:=by
   by_cases h:v<0
   .exact h
   have:=hk (by omega);have:=(hr v (by omega) v1).1;omega
  show(if v<0 then false else if u=v then true else Gu es pa 0 u (par es pa v))=true↔_;rw[if_pos this];constructor
  .intro h;cases h
  rintro⟨h,_⟩;omega
 | succ k ih=>
  intro v v1 hk;show(if v<0 then false else if u=v then true else Gu es pa (k+1) u (par es pa v))=true↔_;by_cases h0:v<0
  .rw[if_pos h0];constructor
   .intro h;cases h
   rintro⟨h,_⟩;omega
  rw[if_neg h0];by_cases he:u=v
  .rw[if_pos he];exact⟨fun _=>⟨by omega,by rw[he];exact .refl⟩,fun _=>rfl⟩
  rw[if_neg he];have h1:=hr v (by omega) v1;have h2:=hk (by omega);rw[ih (par es pa v) (hP.prl v (by omega) v1) (fun h=>by have:=h1.2 h;omega)];constructor
  .rintro⟨h3,h4⟩;exact⟨by omega,.step (hP.ao v (by omega) v1).1 h3 h4⟩
  rintro⟨_,h4⟩;rcases h4.split with h5|⟨_,h6,h7⟩
  .exact absurd h5 he
  exact⟨h6,h7⟩
theorem S2(N:Int)(es:List Pr)(pa he od oi:List Int):ES N es pa he od oi=Jz N es pa he od oi:=by
 by_cases hVL:BX N es/\Len N es.length pa he od oi;rotate_left 1
 .unfold ES Jz;rw[if_neg hVL,if_neg hVL]
 obtain⟨hV,hL⟩:=hVL;have hN0:=hV.lo;have hN1:=hV.hi;obtain⟨Nn,rfl⟩:=A1n hN0;have l2:od.length=Nn:=by have:=hL.od;omega
 have l3:=hL.oi;have e1:ES Nn es pa he od oi=match C4 Nn od 0 (List.replicate Nn (-1)) with
  | none=>false
  | some at'=>E4 es pa he oi Nn&&
   match VV es pa od at' Nn (List.replicate Nn 1) at' with
   | none=>false
   | some (_,la)=>H7 es pa at' la 0 oi:=by unfold ES;rw[if_pos ⟨hV,hL⟩];rfl
 have e2:Jz Nn es pa he od oi=(E4 es pa he oi Nn&&(Q2 pa he Nn&&(JH es pa Nn od (List.replicate Nn false) []&&(NY 0 oi&&HX es pa he Nn oi)))):=by unfold Jz;rw[if_pos ⟨hV,hL⟩];rfl
 rw[e1,e2];clear e1 e2;by_cases hH:E4 es pa he oi Nn=true;rotate_left 1
 .have hH:E4 es pa he oi Nn=false:=by simpa using hH
  rw[hH];cases C4 Nn od 0 (List.replicate Nn (-1))<;>simp
 have hHg:=ML.1 hH;rw[hH,A3S];have hq:∀v:Int,0<=v->v<Nn->(par es pa v<0↔Ae pa v<0):=fun v v0 v1=>(MM hV (hHg v v0 v1)).2.2.2;have hprl:∀v:Int,0<=v->v<Nn->par es pa v<Nn:=fun v v0 v1=>(MM hV (hHg v v0 v1)).2.2.1;cases hpl:C4 Nn od 0 (List.replicate Nn (-1)) with
 | none=>
  have:JH es pa Nn od (List.replicate Nn false) []=false:=by
   cases ho:JH es pa Nn od (List.replicate Nn false) [] with
   | false=>rfl
   | true=>
    obtain⟨b,hb⟩:=H4 od 0 (List.replicate Nn (-1)) (List.replicate Nn false) [] (by simp) (by simp) (by omega) (fun v v0 v1=>by
     unfold Ae;rw[A2h,A2h,if_pos (by omega),if_pos (by omega)];simp) ho;rw[hpl] at hb;cases hb
  rw[this];simp
 | some at'=>
  dsimp only;rw[A3S];obtain⟨lat,hP⟩:=Re l2 hprl hpl;obtain⟨z1,z2⟩:=A0D (by omega) hP hq Nn (List.replicate Nn 1) at' (A1F _) (sz0 lat hP);have hord:=Rp l2 hP Nn 0 (List.replicate Nn false) [] (by omega) (by simp) (fun v v0 v1=>by
   have:=(hP.ao v v0 v1).1;rw[A2h,if_pos (by omega)];simp;omega) (fun _=>rfl) (fun x hx=>by simp at hx) (fun h=>by omega);rw[List.drop_zero] at hord;have hnext:(JH es pa Nn od (List.replicate Nn false) []=true)↔Next Nn (par es pa) (Ae at') (fun k=>Ae od k):=by
   rw[hord];exact⟨fun h i hi=>h i (A1E _) hi,fun h i _ hi=>h i hi⟩
  have hfull:=YU hP;cases hsz:VV es pa od at' Nn (List.replicate Nn 1) at' with
  | none=>
   have:JH es pa Nn od (List.replicate Nn false) []=false:=by
    cases ho:JH es pa Nn od (List.replicate Nn false) [] with
    | false=>rfl
    | true=>
     have hNx:=hnext.1 ho;obtain⟨r,hr⟩:=z1.2 (hfull.2 ⟨I7 hP hNx,Rw hP hNx⟩);rw[hsz] at hr;cases hr
   rw[this];simp
  | some r=>
   obtain⟨sz',la⟩:=r;dsimp only;have hS:=z2 _ hsz;obtain⟨hE,hC⟩:=hfull.1 (z1.1 ⟨_,hsz⟩);have ho:=hnext.2 (Sn hP hE hC);have hht:=heights hV hHg hP hE;have hht2:∀v:Int,0<=v->v<Nn->0<=Ae he v/\Ae he v<=Ae at' v/\(Ae he v=0↔Ae pa v= -1)/\(0<=par es pa v->Ae he v=Ae he (par es pa v)+1):=by
    intro v v0 v1;have ha:=hP.ao v v0 v1;have:=hht (Ae at' v).toNat v v0 v1 (by omega);refine⟨this.1,by omega,this.2.2⟩
   have hroot:Q2 pa he Nn=true:=by
    rw[N5];intro v v0 v1;have h1:=hht2 v v0 v1;have ha:=hP.ao v v0 v1;simp only[UO,decide_eq_true_eq];exact⟨h1.1,by omega,h1.2.2.1⟩
   rw[hroot,ho,A3S,A3S];rw[A3a,A1P,KE,Io,I2];have hab:∀u v:Int,0<=u->0<=v->v<Nn->(Gu es pa (Nn+1) u v=true↔Cy (par es pa) (Ae at') 0 u v):=by
    intro u v u0 v0 v1;rw[M8 hP (fun v v0 v1=>⟨(hht2 v v0 v1).1,(hht2 v v0 v1).2.2.2⟩) u u0 Nn v v1 (fun _=>by
     have h1:=hht2 v v0 v1;have ha:=hP.ao v v0 v1;omega)];exact⟨fun h=>h.2,fun h=>⟨v0,h⟩⟩
   have hlow:∀{u v:Int},Cy (par es pa) (Ae at') 0 u v->0<=v->v<Nn->u≠v->Ae he u<Ae he v:=by
    intro u v hA;have key:∀{v:Int},Cy (par es pa) (Ae at') 0 u v->0<=v->v<Nn->Ae he u<=Ae he v:=by
     intro v hA
     induction hA with
     | refl=>intro _ _;exact A2g _
     | @step w _ h2 _ ih=>
      intro w0 w1;have:=ih h2 (hprl w w0 w1);have:=(hht2 w w0 w1).2.2.2 h2;omega
    intro v0 v1 hne;rcases hA.split with h|⟨_,h2,h3⟩
    .exact absurd h hne
    have:=key h3 h2 (hprl v v0 v1);have:=(hht2 v v0 v1).2.2.2 h2;omega
   have hedge:∀h:Int,0<=h->h<es.length*2->
     ((Ae at' (AD es h)<Ae at' (Aj es h)/\Ae at' (Aj es h)<=Ae la (AD es h))↔(Ae he (AD es h)<Ae he (Aj es h)/\Gu es pa (Nn+1) (AD es h) (Aj es h)=true)):=by
    intro h h0 h1;have hf:=BE hV h0 h1;have ht:=Dg hV h0 h1;rw[hab _ _ ht.1 hf.1 hf.2];obtain⟨m,m1,m2,m3,m4⟩:=hS.l0 _ ht.1 ht.2;dsimp only at m1 m3 m4;have at1:=hP.ao _ ht.1 ht.2;have af1:=hP.ao _ hf.1 hf.2;rw[m1];constructor
    .rintro⟨g1,g2⟩;have hA:Cy (par es pa) (Ae at') 0 (AD es h) (Aj es h):=by
      have:=hC (Ae at' (AD es h)).toNat (Ae at' (Aj es h)).toNat m (by omega) (by omega) m2 (by dsimp only;rw[at1.2.2];exact m3);dsimp only at this;rw[at1.2.2,af1.2.2] at this;exact this
     refine⟨hlow hA hf.1 hf.2 (fun e=>?_),hA⟩;rw[e] at g1;omega
    rintro⟨g1,g2⟩;have hne:AD es h≠Aj es h:=fun e=>by rw[e] at g1;omega
    have hle:Ae at' (AD es h)<=Ae at' (Aj es h):=g2.early hP hE hf.1 hf.2;have hne2:Ae at' (AD es h)≠Ae at' (Aj es h):=fun e=>hne (by rw[<-at1.2.2,<-af1.2.2,e]);have:=m4 (Ae at' (Aj es h)).toNat (by omega) (by rw[af1.2.2];exact g2);omega
   constructor
   .intro h;refine⟨fun j x hj=>(h j x hj).1,fun x hx=>?_⟩;obtain⟨j,hj⟩:=List.getElem?_of_mem hx;have h1:=h j x hj;have hjl:=(A1e.1 hj).1;rcases h1.2 with h2|h2
    .exact .inl h2
    exact .inr ((hedge x (by omega) (by omega)).1 h2)
   rintro⟨h1,h2⟩ j x hj;have hjl:=(A1e.1 hj).1;have h3:=h1 j x hj;refine⟨h3,?_⟩;rcases h2 x (A1h hj) with h4|h4
   .exact .inl h4
   exact .inr ((hedge x (by omega) (by omega)).2 h4)
abbrev Qz(es:List Pr)(s:St)(u w:Int):Prop:=Cy (par es s.pa) (fun _=>0) 0 u w
def CK(s:St)(x:Int):Prop:=0<=Ae s.he x
structure G (N:Int) (es:List Pr) (s:St):Prop where
 pal:s.pa.length=N.toNat
 hel:s.he.length=N.toNat
 oil:s.oi.length=es.length
 od:∀x:Int,x∈s.od↔0<=x/\x<N/\CK s x
 nd:s.od.Nodup
 unv:∀x:Int,0<=x->x<N->¬CK s x->Ae s.pa x= -1
 hang:∀x:Int,0<=x->x<N->CK s x->(Ae s.pa x= -1/\Ae s.he x=0)\/
  (0<=Ae s.pa x/\Ae s.pa x<es.length*2/\AD es (Ae s.pa x)=x/\Ae s.oi (Ae s.pa x / 2)=Ae s.pa x/\CK s (Aj es (Ae s.pa x))/\Ae s.he x=Ae s.he (Aj es (Ae s.pa x))+1)
 ori:∀e:Int,0<=e->e<es.length->Ae s.oi e<0\/((Ae s.oi e=2*e\/Ae s.oi e=2*e+1)/\CK s (Aj es (Ae s.oi e))/\CK s (AD es (Ae s.oi e))/\
  (Ae s.pa (AD es (Ae s.oi e))=Ae s.oi e\/(Ae s.he (AD es (Ae s.oi e))<Ae s.he (Aj es (Ae s.oi e))/\Qz es s (AD es (Ae s.oi e)) (Aj es (Ae s.oi e)))))
 fst:∀x,s.od[0]? =some x->par es s.pa x<0
 nxt:∀(i:Nat) x y,s.od[i]? =some y->s.od[i+1]? =some x->0<=par es s.pa x->Qz es s (par es s.pa x) y
structure Ext (N:Int) (es:List Pr) (s s':St):Prop where
 seen:∀x:Int,0<=x->x<N->CK s x->CK s' x
 pa:∀x:Int,0<=x->x<N->CK s x->Ae s'.pa x=Ae s.pa x
 he:∀x:Int,0<=x->x<N->CK s x->Ae s'.he x=Ae s.he x
 oi:∀e:Int,0<=e->e<es.length->0<=Ae s.oi e->Ae s'.oi e=Ae s.oi e
section
variable{N:Int}{es:List Pr}{s s' s1:St}{u v w x:Int}
theorem Ext.refl(s:St):Ext N es s s:=⟨fun _ _ _ h=>h,fun _ _ _ _=>rfl,fun _ _ _ _=>rfl,fun _ _ _ _=>rfl⟩
theorem Ext.trans(h:Ext N es s s1)(h':Ext N es s1 s'):Ext N es s s':=
 ⟨fun x h0 h1 hs=>h'.seen x h0 h1 (h.seen x h0 h1 hs),fun x h0 h1 hs=>(h'.pa x h0 h1 (h.seen x h0 h1 hs)).trans (h.pa x h0 h1 hs),fun x h0 h1 hs=>(h'.he x h0 h1 (h.seen x h0 h1 hs)).trans (h.he x h0 h1 hs),
  fun e h0 h1 hs=>(h'.oi e h0 h1 (by rw[h.oi e h0 h1 hs];exact hs)).trans (h.oi e h0 h1 hs)⟩
theorem Kt(h:Ae s'.pa x=Ae s.pa x):par es s'.pa x=par es s.pa x:=by unfold par;rw[h]
theorem G.par_seen(hV:BX N es)(hG:G N es s)(h0:0<=x)(h1:x<N)(hs:CK s x)(hp:0<=par es s.pa x):0<=Ae s.pa x/\par es s.pa x=Aj es (Ae s.pa x)/\par es s.pa x<N/\CK s (par es s.pa x)/\Ae s.he x=Ae s.he (par es s.pa x)+1:=by
 have hpa:¬Ae s.pa x<0:=fun h=>by unfold par at hp;rw[if_pos h] at hp;omega
 have hpe:par es s.pa x=Aj es (Ae s.pa x):=by unfold par;rw[if_neg hpa]
 rcases hG.hang x h0 h1 hs with⟨h2,_⟩|⟨h2,h3,h4,h5,h6,h7⟩
 .omega
 have:=BE hV h2 h3;rw[hpe];exact⟨h2,rfl,this.2,h6,h7⟩
theorem Qz.ext(hV:BX N es)(hG:G N es s)(hE:Ext N es s s')(h0:0<=w)(h1:w<N)(hs:CK s w):Qz es s u w↔Qz es s' u w:=by
 constructor
 .intro h;unfold Qz at*
  induction h with
  | refl=>exact .refl
  | @step w q1 q2 q3 ih=>
   obtain⟨_,_,p3,p4,_⟩:=hG.par_seen hV h0 h1 hs q2;have e:=Kt (es:=es) (hE.pa w h0 h1 hs);exact .step q1 (by rw[e];exact q2) (by rw[e];exact ih q2 p3 p4)
 intro h;unfold Qz at*
 induction h with
 | refl=>exact .refl
 | @step w q1 q2 q3 ih=>
  have e:=Kt (es:=es) (hE.pa w h0 h1 hs);rw[e] at q2;obtain⟨_,_,p3,p4,_⟩:=hG.par_seen hV h0 h1 hs q2;exact .step q1 q2 (by have:=ih (by rw[e];exact q2) (by rw[e];exact p3) (by rw[e];exact p4);rwa [e] at this)
theorem Qz.seen(hV:BX N es)(hG:G N es s)(h:Qz es s u w)(h0:0<=w)(h1:w<N)(hs:CK s w):0<=u/\u<N/\CK s u/\Ae s.he u<=Ae s.he w:=by
 unfold Qz at h
 induction h with
 | refl=>exact⟨h0,h1,hs,A2g _⟩
 | @step w q1 q2 q3 ih=>
  obtain⟨_,_,p3,p4,p5⟩:=hG.par_seen hV h0 h1 hs q2;obtain⟨i1,i2,i3,i4⟩:=ih q2 p3 p4;exact⟨i1,i2,i3,by omega⟩
def GT(es:List Pr)(s:St)(x:Int):Prop:=∀h∈Bs es x,0<=Ae s.oi (h / 2)
theorem GT.ext(hV:BX N es)(hE:Ext N es s s')(h:GT es s x):GT es s' x:=by
 intro k hk;have hm:=(Bb hV).1 hk;have:=h k hk;rw[hE.oi _ (by omega) (by omega) this];exact this
theorem Qz.lt(hV:BX N es)(hG:G N es s)(h:Qz es s u w)(h0:0<=w)(h1:w<N)(hs:CK s w)(hne:u≠w):Ae s.he u<Ae s.he w:=by
 rcases h.split with e|⟨_,q2,q3⟩
 .exact absurd e hne
 obtain⟨_,_,p3,p4,p5⟩:=hG.par_seen hV h0 h1 hs q2;have:=(Qz.seen hV hG q3 q2 p3 p4).2.2.2;omega
theorem G.back(hV:BX N es)(hG:G N es s){h:Int}(hm0:0<=h)(hm1:h<es.length*2)(ho:Ae s.oi (h / 2)<0)(hsf:CK s (Aj es h))(hst:CK s (AD es h))
 (hA:Qz es s (AD es h) (Aj es h))(hlt:Ae s.he (AD es h)<Ae s.he (Aj es h)):G N es (s.ori h)/\Ext N es s (s.ori h):=by
 have hset:=fun(e:Int) (h0:0<=e)=>CX (l:=s.oi) (i:=h / 2) (j:=e) (x:=h) (by omega) (by rw[hG.oil];omega) h0;refine⟨⟨hG.pal,hG.hel,by simp[St.ori,hG.oil],hG.od,hG.nd,hG.unv,fun x h0 h1 hs=>?_,fun e h0 h1=>?_,hG.fst,hG.nxt⟩,⟨fun _ _ _ h=>h,fun _ _ _ _=>rfl,fun _ _ _ _=>rfl,fun e h0 h1 hs=>?_⟩⟩
 .rcases hG.hang x h0 h1 hs with h2|⟨h2,h3,h4,h5,h6⟩
  .exact .inl h2
  refine .inr ⟨h2,h3,h4,?_,h6⟩;show Ae (s.oi.set (h / 2).toNat h) (Ae s.pa x / 2)=Ae s.pa x;rw[hset _ (by omega)];by_cases he:Ae s.pa x / 2=h / 2
  .exfalso;have:Ae s.oi (h / 2)=Ae s.pa x:=by rw[<-h5];congr 1;exact he.symm
   omega
  rw[if_neg he];exact h5
 .show Ae (s.oi.set (h / 2).toNat h) e<0\/_;have e1:Ae (s.ori h).oi e=if e=h / 2 then h else Ae s.oi e:=hset e h0
  by_cases he:e=h / 2
  .rw[if_pos he] at e1;rw[e1];exact .inr ⟨by omega,hsf,hst,.inr ⟨hlt,hA⟩⟩
  rw[if_neg he] at e1;rw[e1];have e2:Ae (s.oi.set (h / 2).toNat h) e=Ae s.oi e:=e1;rw[e2];exact hG.ori e h0 h1
 show Ae (s.oi.set (h / 2).toNat h) e=_;rw[hset e h0];by_cases he:e=h / 2
 .rw[he] at hs;omega
 rw[if_neg he]
theorem G.enter(hV:BX N es)(hG:G N es s){p d:Int}{s2:St}(hw0:0<=w)(hw1:w<N)(hu:¬CK s w)(hd:0<=d)
 (pl:s2.pa.length=N.toNat)(hl:s2.he.length=N.toNat)(ol:s2.oi.length=es.length)
 (hpa:∀x:Int,0<=x->x<N->Ae s2.pa x=if x=w then p else Ae s.pa x)(hhe:∀x:Int,0<=x->x<N->Ae s2.he x=if x=w then d else Ae s.he x)(hod:s2.od=s.od++[w])
 (hoi:∀e:Int,0<=e->e<es.length->Ae s2.oi e=Ae s.oi e\/(Ae s.oi e<0/\Ae s2.oi e=p/\0<=p/\e=p / 2))
 (hp:(p= -1/\d=0)\/(0<=p/\p<es.length*2/\AD es p=w/\Ae s2.oi (p / 2)=p/\CK s (Aj es p)/\d=Ae s.he (Aj es p)+1/\∃y,s.od.getLast? =some y/\Qz es s (Aj es p) y)):
  G N es s2/\Ext N es s s2:=by
 have hseen:∀x:Int,0<=x->x<N->(CK s2 x↔x=w\/CK s x):=by
  intro x x0 x1;unfold CK;rw[hhe x x0 x1];by_cases he:x=w
  .rw[if_pos he];simp[he,hd]
  rw[if_neg he];simp[he]
 have hne:∀x:Int,CK s x->x≠w:=fun x hs e=>hu (e▸hs);have hE:Ext N es s s2:=⟨fun x x0 x1 hs=>(hseen x x0 x1).2 (.inr hs),fun x x0 x1 hs=>by rw[hpa x x0 x1,if_neg (hne x hs)],fun x x0 x1 hs=>by rw[hhe x x0 x1,if_neg (hne x hs)],fun e e0 e1 hs=>by
  rcases hoi e e0 e1 with h|⟨h,_⟩
  .exact h
  omega⟩;refine⟨⟨pl,hl,ol,fun x=>?_,?_,fun x x0 x1 hs=>?_,fun x x0 x1 hs=>?_,fun e e0 e1=>?_,fun x hx=>?_,fun i x y hy hx hpp=>?_⟩,hE⟩
 .rw[hod,A1C,hG.od x];constructor
  .rintro(⟨h0,h1,h2⟩|h)
   .exact⟨h0,h1,(hseen x h0 h1).2 (.inr h2)⟩
   simp at h;rw[h];exact⟨hw0,hw1,(hseen w hw0 hw1).2 (.inl rfl)⟩
  rintro⟨h0,h1,h2⟩;rcases(hseen x h0 h1).1 h2 with h|h
  .exact .inr (by simp[h])
  exact .inl ⟨h0,h1,h⟩
 .rw[hod,A1I];refine⟨hG.nd,by simp,fun a ha b hb e=>?_⟩;simp at hb;rw[e,hb] at ha;exact hu ((hG.od w).1 ha).2.2
 .have h1:¬(x=w\/CK s x):=fun h=>hs ((hseen x x0 x1).2 h);rw[hpa x x0 x1,if_neg fun h=>h1 (.inl h)];exact hG.unv x x0 x1 fun h=>h1 (.inr h)
 .by_cases he:x=w
  .subst he;rw[hpa x x0 x1,hhe x x0 x1,if_pos rfl,if_pos rfl];rcases hp with h|⟨h1,h2,h3,h4,h5,h6,_⟩
   .exact .inl h
   have hf:=BE hV h1 h2;exact .inr ⟨h1,h2,h3,h4,(hseen _ hf.1 hf.2).2 (.inr h5),by rw[hhe _ hf.1 hf.2,if_neg (hne _ h5)];exact h6⟩
  have hs':CK s x:=((hseen x x0 x1).1 hs).resolve_left he;rw[hpa x x0 x1,hhe x x0 x1,if_neg he,if_neg he];rcases hG.hang x x0 x1 hs' with h|⟨h1,h2,h3,h4,h5,h6⟩
  .exact .inl h
  have hf:=BE hV h1 h2;refine .inr ⟨h1,h2,h3,?_,(hseen _ hf.1 hf.2).2 (.inr h5),by rw[hhe _ hf.1 hf.2,if_neg (hne _ h5)];exact h6⟩;rcases hoi (Ae s.pa x / 2) (by omega) (by omega) with h|⟨h,_⟩
  .rw[h];exact h4
  omega
 .rcases hoi e e0 e1 with h|⟨h,h2,h3,h4⟩
  .rw[h];rcases hG.ori e e0 e1 with g|⟨g1,g2,g3,g4⟩
   .exact .inl g
   have ht:=Dg hV (h:=Ae s.oi e) (by omega) (by omega);have hf:=BE hV (h:=Ae s.oi e) (by omega) (by omega);refine .inr ⟨g1,(hseen _ hf.1 hf.2).2 (.inr g2),(hseen _ ht.1 ht.2).2 (.inr g3),?_⟩;rw[hpa _ ht.1 ht.2,if_neg (hne _ g3),hhe _ ht.1 ht.2,if_neg (hne _ g3),hhe _ hf.1 hf.2,if_neg (hne _ g2)];exact g4.imp id fun q=>⟨q.1,(Qz.ext hV hG hE hf.1 hf.2 g2).1 q.2⟩
  rcases hp with⟨q,_⟩|⟨q1,q2,q3,q4,q5,q6,_⟩
  .omega
  have hf:=BE hV q1 q2;right;rw[h2,q3];refine⟨by omega,(hseen _ hf.1 hf.2).2 (.inr q5),(hseen _ hw0 hw1).2 (.inl rfl),.inl ?_⟩;rw[hpa _ hw0 hw1,if_pos rfl]
 .rw[hod] at hx;rcases Nat.eq_zero_or_pos s.od.length with h0|h0
  .have:s.od=[]:=A1s h0;rw[this] at hx;simp at hx;rcases hp with⟨q,_⟩|⟨_,_,_,_,_,_,y,hy,_⟩
   .rw[<-hx];unfold par;rw[hpa _ hw0 hw1,if_pos rfl,if_pos (by omega)];omega
   rw[this] at hy;cases hy
  rw[A1o h0] at hx;have hm:=(hG.od x).1 (A1h hx);rw[Kt (hE.pa x hm.1 hm.2.1 hm.2.2)];exact hG.fst x hx
 rw[hod] at hx hy;by_cases hlt:i+1<s.od.length
 .rw[A1o hlt] at hx;rw[A1o (by omega)] at hy;have hm:=(hG.od x).1 (A1h hx);have hmy:=(hG.od y).1 (A1h hy);have e:=Kt (es:=es) (hE.pa x hm.1 hm.2.1 hm.2.2);rw[e] at hpp ⊢;exact(Qz.ext hV hG hE hmy.1 hmy.2.1 hmy.2.2).1 (hG.nxt i x y hy hx hpp)
 have hlen:=(A1e.1 hx).1;simp at hlen;have hi:i+1=s.od.length:=by omega
 rw[A1p (by omega),hi,A3j] at hx;simp at hx;rw[A1o (by omega)] at hy;have hmy:=(hG.od y).1 (A1h hy);have hpw:par es s2.pa w=if p<0 then -1 else Aj es p:=by unfold par;rw[hpa _ hw0 hw1,if_pos rfl]
 rw[<-hx,hpw] at hpp ⊢;rcases hp with⟨q,_⟩|⟨q1,q2,q3,q4,q5,q6,y',hy',hA⟩
 .rw[if_pos (by omega)] at hpp;omega
 rw[if_neg (by omega)];have:y'=y:=by
  rw[A3z,show s.od.length-1=i by omega,hy] at hy';exact(Option.some.inj hy').symm
 rw[<-this];rw[<-this] at hmy;exact(Qz.ext hV hG hE hmy.1 hmy.2.1 hmy.2.2).1 hA
theorem A0A(h:Int):tw h / 2=h / 2:=by unfold tw;split<;>omega
theorem ends_ne(hV:BX N es){h:Int}(h0:0<=h)(h1:h<es.length*2):Aj es h≠AD es h:=by
 obtain⟨hn,rfl⟩:=A1n h0;obtain⟨e,he,hf⟩:=PR (es:=es) (h:=hn) (by omega);have ho:=(hV.ok _ e he).lt;obtain⟨f1,f2⟩:=Ek he;have hfv:Aj es hn=if hn%2=0 then e.1 else e.2:=by unfold Aj;rw[if_pos h0,A1g,hf];rfl
 have htv:AD es hn=if hn%2=0 then e.2 else e.1:=by
  unfold AD tw;rw[if_pos h0];by_cases hp:hn%2=0
  .rw[if_pos hp,if_pos (by omega)];unfold Aj;rw[if_pos (by omega),show((hn:Int)+1).toNat=2*(hn / 2)+1 by omega,f2];rfl
  rw[if_neg hp,if_neg (by omega)];unfold Aj;rw[if_pos (by omega),show((hn:Int)-1).toNat=2*(hn / 2) by omega,f1];rfl
 rw[hfv,htv];split<;>omega
theorem tw_mem(hV:BX N es){h:Int}(h0:0<=h)(h1:h<es.length*2):tw h∈Bs es (AD es h):=by
 have ht:=FW h0 h1;refine(Bb hV).2 ⟨ht.1,ht.2,?_⟩;unfold AD;rw[if_pos h0]
theorem Ud(hV:BX N es){l:List Int}(hD:Qw es v l s s'):G N es s->0<=v->v<N->CK s v->(∃q,Bs es v=q++l/\∀h∈q,0<=Ae s.oi (h / 2))->
  (∀x:Int,0<=x->x<N->CK s x->¬Qz es s x v->GT es s x)->(∃y,s.od.getLast? =some y/\Qz es s v y)->
  G N es s'/\Ext N es s s'/\(∀x:Int,0<=x->x<N->CK s' x->(x=v\/¬Qz es s' x v)->GT es s' x)/\∃y,s'.od.getLast? =some y/\Qz es s' v y:=by
 induction hD with
 | nil=>
  rintro hG v0 v1 hs ⟨q,hq,hqo⟩ hfin hlast;refine⟨hG,Ext.refl _,fun x x0 x1 hx hc=>?_,hlast⟩;rcases hc with rfl|hc
  .intro h hh;rw[hq,A1O] at hh;exact hqo h hh
  exact hfin x x0 x1 hx hc
 | @seen v h l s s' ho r ih=>
  rintro hG v0 v1 hs ⟨q,hq,hqo⟩ hfin hlast;exact ih hG v0 v1 hs ⟨q++[h],by simp[hq],fun k hk=>by
   rcases A1C.1 hk with hk|hk
   .exact hqo k hk
   simp at hk;rw[hk];exact ho⟩ hfin hlast
 | @back v h l s s' ho hw r ih=>
  rintro hG v0 v1 hs ⟨q,hq,hqo⟩ hfin hlast;obtain⟨hm0,hm1,hm2⟩:=(Bb hV (v:=v) (h:=h)).1 (by rw[hq];simp);have ht:=Dg hV hm0 hm1;have hne:=ends_ne hV hm0 hm1;rw[hm2] at hne;have hA:Qz es s (AD es h) v:=by
   apply Classical.byContradiction;intro hn;have:=hfin _ ht.1 ht.2 hw hn (tw h) (tw_mem hV hm0 hm1);rw[A0A] at this;omega
  have hlt:=Qz.lt hV hG hA v0 v1 hs (Ne.symm hne);obtain⟨hG1,hE1⟩:=hG.back hV hm0 hm1 ho (by rw[hm2];exact hs) hw (by rw[hm2];exact hA) (by rw[hm2];exact hlt);have hoih:Ae (s.ori h).oi (h / 2)=h:=by
   show Ae (s.oi.set (h / 2).toNat h) (h / 2)=h;rw[CX (by omega) (by rw[hG.oil];omega) (by omega),if_pos rfl]
  obtain⟨r1,r2,r3,r4⟩:=ih hG1 v0 v1 hs ⟨q++[h],by simp[hq],fun k hk=>by
   rcases A1C.1 hk with hk|hk
   .have hmk:=(Bb hV (v:=v) (h:=k)).1 (by rw[hq];exact A2w _ hk);have:=hqo k hk;rw[hE1.oi _ (by omega) (by omega) this];exact this
   simp at hk;rw[hk,hoih];exact hm0⟩ (fun x x0 x1 hx hn=>(hfin x x0 x1 hx hn).ext hV hE1) hlast;exact⟨r1,hE1.trans r2,r3,r4⟩
 | @tree v h l s s1 s' ho hw r1 r ih1 ih=>
  rintro hG v0 v1 hs ⟨q,hq,hqo⟩ hfin hlast;obtain⟨hm0,hm1,hm2⟩:=(Bb hV (v:=v) (h:=h)).1 (by rw[hq];simp);have ht:=Dg hV hm0 hm1;have hd:0<=Ae s.he v+1:=by unfold CK at hs;omega
  have hun:¬CK s (AD es h):=by unfold CK;omega
  have hoi2:=fun(e:Int) (e0:0<=e)=>CX (l:=s.oi) (i:=h / 2) (j:=e) (x:=h) (by omega) (by rw[hG.oil];omega) e0;obtain⟨hG2,hE2⟩:=hG.enter (w:=AD es h) (p:=h) (d:=Ae s.he v+1) (s2:=(s.ori h).enter (AD es h) h (Ae s.he v+1)) hV ht.1 ht.2 hun hd
   (by simp[St.enter,St.ori,hG.pal]) (by simp[St.enter,St.ori,hG.hel]) (by simp[St.enter,St.ori,hG.oil])
   (fun x x0 x1=>CX ht.1 (by have:=hG.pal;show _<s.pa.length;omega) x0) (fun x x0 x1=>CX ht.1 (by have:=hG.hel;show _<s.he.length;omega) x0) rfl
   (fun e e0 e1=>by
    have e2:Ae ((s.ori h).enter (AD es h) h (Ae s.he v+1)).oi e=if e=h / 2 then h else Ae s.oi e:=hoi2 e e0
    by_cases he:e=h / 2
    .right;rw[e2,if_pos he,he];exact⟨ho,rfl,hm0,rfl⟩
    left;rw[e2,if_neg he])
   (.inr ⟨hm0,hm1,rfl,by
    have e2:Ae ((s.ori h).enter (AD es h) h (Ae s.he v+1)).oi (h / 2)=if h / 2=h / 2 then h else Ae s.oi (h / 2):=hoi2 (h / 2) (by omega)
    rw[e2,if_pos rfl],by rw[hm2];exact hs,by rw[hm2],by rw[hm2];exact hlast⟩);have e_pa:Ae ((s.ori h).enter (AD es h) h (Ae s.he v+1)).pa (AD es h)=h:=by
   have:=CX (l:=s.pa) (i:=AD es h) (j:=AD es h) (x:=h) ht.1 (by rw[hG.pal];omega) ht.1;rw[if_pos rfl] at this;exact this
  have e_oi:Ae ((s.ori h).enter (AD es h) h (Ae s.he v+1)).oi (h / 2)=h:=by
   have e2:Ae ((s.ori h).enter (AD es h) h (Ae s.he v+1)).oi (h / 2)=if h / 2=h / 2 then h else Ae s.oi (h / 2):=hoi2 (h / 2) (by omega)
   rw[e2,if_pos rfl]
  have e_he:∀x:Int,0<=x->x<N->Ae ((s.ori h).enter (AD es h) h (Ae s.he v+1)).he x=if x=AD es h then Ae s.he v+1 else Ae s.he x:=fun x x0 x1=>CX ht.1 (by have:=hG.hel;show _<s.he.length;omega) x0
  have e_od:((s.ori h).enter (AD es h) h (Ae s.he v+1)).od=s.od++[AD es h]:=rfl;generalize (s.ori h).enter (AD es h) h (Ae s.he v+1)=s2 at *;have hsw:CK s2 (AD es h):=by unfold CK;rw[e_he _ ht.1 ht.2,if_pos rfl];exact hd
  have hse:∀x:Int,0<=x->x<N->CK s2 x->x≠AD es h->CK s x:=by
   intro x x0 x1 hx hne;unfold CK at hx ⊢;rw[e_he x x0 x1,if_neg hne] at hx;exact hx
  have hpw:par es s2.pa (AD es h)=v:=by unfold par;rw[e_pa,if_neg (by omega),hm2]
  obtain⟨a1,a2,a3,y,a4,a5⟩:=ih1 hG2 ht.1 ht.2 hsw ⟨[],rfl,fun _ hk=>by simp at hk⟩ (fun x x0 x1 hx hn=>by
   have hne:x≠AD es h:=fun e=>hn (by rw[e];exact .refl);have hxs:=hse x x0 x1 hx hne;refine(hfin x x0 x1 hxs fun hA=>hn ?_).ext hV hE2;exact .step (A2g _) (by rw[hpw];exact v0) (by rw[hpw];exact(Qz.ext hV hG hE2 v0 v1 hs).1 hA)) ⟨AD es h,by rw[e_od];simp,.refl⟩;have hE1:=hE2.trans a2;have hpw1:par es s1.pa (AD es h)=v:=by rw[Kt (a2.pa _ ht.1 ht.2 hsw)];exact hpw
  obtain⟨r1,r2,r3,r4⟩:=ih a1 v0 v1 (hE1.seen v v0 v1 hs) ⟨q++[h],by simp[hq],fun k hk=>by
   rcases A1C.1 hk with hk|hk
   .have hmk:=(Bb hV (v:=v) (h:=k)).1 (by rw[hq];exact A2w _ hk);have:=hqo k hk;rw[hE1.oi _ (by omega) (by omega) this];exact this
   .simp at hk;rw[hk,a2.oi _ (by omega) (by omega) (by rw[e_oi];exact hm0),e_oi];exact hm0⟩ (fun x x0 x1 hx hn=>by
   refine a3 x x0 x1 hx ?_;by_cases he:x=AD es h
   .exact .inl he
   refine .inr fun hA=>?_;rcases hA.split with e|⟨_,_,q3⟩
   .exact he e
   rw[hpw1] at q3;exact hn q3) ⟨y,a4,a5.trans (.step (A2g _) (by rw[hpw1];exact v0) (by rw[hpw1];exact .refl))⟩;exact⟨r1,hE1.trans r2,r3,r4⟩
theorem L9(hV:BX N es)(hR:Qu es N v s s'):G N es s->0<=v->v<=N->(∀x:Int,0<=x->x<v->CK s x)->(∀x:Int,0<=x->x<N->CK s x->GT es s x)->
  G N es s'/\(∀x:Int,0<=x->x<N->CK s' x)/\(∀x:Int,0<=x->x<N->GT es s' x):=by
 induction hR with
 | done h=>
  intro hG v0 v1 hs hf;exact⟨hG,fun x x0 x1=>hs x x0 (by omega),fun x x0 x1=>hf x x0 x1 (hs x x0 (by omega))⟩
 | @skip v s s' h hh r ih=>
  intro hG v0 v1 hs hf;refine ih hG (by omega) (by omega) (fun x x0 x1=>?_) hf;by_cases he:x=v
  .rw[he];exact hh
  exact hs x x0 (by omega)
 | @root v s s1 s' h hh r1 r ih=>
  intro hG v0 v1 hs hf;have hun:¬CK s v:=by unfold CK;omega
  obtain⟨hG2,hE2⟩:=hG.enter (w:=v) (p:= -1) (d:=0) (s2:=s.enter v (-1) 0) hV v0 h hun (by omega) (by simp[St.enter,hG.pal]) (by simp[St.enter,hG.hel]) (by simp[St.enter,hG.oil])
   (fun x x0 x1=>CX v0 (by have:=hG.pal;omega) x0) (fun x x0 x1=>CX v0 (by have:=hG.hel;omega) x0) rfl (fun e _ _=>.inl rfl) (.inl ⟨rfl,rfl⟩);have e_pa:Ae (s.enter v (-1) 0).pa v= -1:=by
   have:=CX (l:=s.pa) (i:=v) (j:=v) (x:= -1) v0 (by rw[hG.pal];omega) v0;rw[if_pos rfl] at this;exact this
  have e_he:∀x:Int,0<=x->x<N->Ae (s.enter v (-1) 0).he x=if x=v then 0 else Ae s.he x:=fun x x0 x1=>CX v0 (by have:=hG.hel;omega) x0
  have e_od:(s.enter v (-1) 0).od=s.od++[v]:=rfl;generalize s.enter v (-1) 0=s2 at *;have hsw:CK s2 v:=by unfold CK;rw[e_he _ v0 h,if_pos rfl];exact A2g _
  obtain⟨a1,a2,a3,_⟩:=Ud hV r1 hG2 v0 h hsw ⟨[],rfl,fun _ hk=>by simp at hk⟩ (fun x x0 x1 hx hn=>by
   have hne:x≠v:=fun e=>hn (by rw[e];exact .refl);have hxs:CK s x:=by unfold CK at hx ⊢;rw[e_he x x0 x1,if_neg hne] at hx;exact hx
   exact(hf x x0 x1 hxs).ext hV hE2) ⟨v,by rw[e_od];simp,.refl⟩;have hpar:par es s1.pa v= -1:=by rw[Kt (a2.pa _ v0 h hsw)];unfold par;rw[e_pa,if_pos (by omega)]
  refine ih a1 (by omega) (by omega) (fun x x0 x1=>?_) (fun x x0 x1 hx=>?_)
  .by_cases he:x=v
   .rw[he];exact a2.seen v v0 h hsw
   exact(hE2.trans a2).seen x x0 (by omega) (hs x x0 (by omega))
  refine a3 x x0 x1 hx ?_;by_cases he:x=v
  .exact .inl he
  refine .inr fun hA=>?_;rcases hA.split with e|⟨_,q2,_⟩
  .exact he e
  omega
theorem Vh(hV:BX N es):G N es (start N es.length):=by
 have hns:∀x:Int,0<=x->x<N->Ae (start N es.length).he x= -1:=fun x x0 x1=>by unfold Ae start;simp only[A2h];rw[if_pos (by omega)];rfl
 refine⟨by simp[start],by simp[start],by simp[start],fun x=>⟨fun h=>by simp[start] at h,fun⟨h0,h1,h2⟩=>by unfold CK at h2;rw[hns x h0 h1] at h2;omega⟩,by simp[start],fun x x0 x1 _=>?_,fun x x0 x1 hs=>by unfold CK at hs;rw[hns x x0 x1] at hs;omega,fun e e0 e1=>?_,fun x hx=>by simp[start] at hx,fun i x y hy=>by simp[start] at hy⟩
 .unfold Ae start;simp only[A2h];rw[if_pos (by omega)];rfl
 left;unfold Ae start;simp only[A2h];rw[if_pos (by omega)];simp
theorem SE{pr a:Int->Int}{n:Nat}(hpr:∀x:Int,0<=x->x<n->pr x<n)(ha:∀x:Int,0<=x->x<n->0<=a x)(h:Cy pr (fun _=>0) 0 u w):0<=w->w<n->Cy pr a 0 u w:=by
 induction h with
 | refl=>intro _ _;exact .refl
 | @step w _ q2 _ ih=>intro w0 w1;exact .step (ha w w0 w1) q2 (ih q2 (hpr w w0 w1))
def plc(n:Nat)(od:List Int):List Int:=(List.range n).map fun(v:Nat)=>(od.idxOf (v:Int):Int)
theorem SY{n:Nat}(hV:BX n es)(hI:Inv n es.length (es.length+n) s)(hR:Qu es n 0 (start n es.length) s):ES n es s.pa s.he s.od s.oi=true:=by
 have hN1:=hV.hi;have hfew:=hV.few;obtain⟨hG,hS,hF⟩:=L9 hV hR (Vh hV) (by omega) (by omega) (fun x x0 x1=>by omega) (fun x x0 x1 hs=>by
  exfalso;unfold CK Ae start at hs;simp only[A2h] at hs;rw[if_pos (by omega)] at hs;simp at hs);have hperm:s.od.Perm ((List.range n).map fun(v:Nat)=>(v:Int)):=by
  refine(A3F hG.nd ?_).2 fun x=>?_
  .exact List.Pairwise.map _ (fun a b h e=>h (by omega)) A2f
  rw[hG.od x];simp only[A1G,A1r];constructor
  .rintro⟨h0,h1,_⟩;exact⟨x.toNat,by omega,by omega⟩
  rintro⟨y,hy,rfl⟩;exact⟨by omega,by omega,hS _ (by omega) (by omega)⟩
 have hodl:s.od.length=n:=by rw[hperm.length_eq];simp
 have hL:Len n es.length s.pa s.he s.od s.oi:=⟨by have:=hG.pal;omega,by have:=hG.hel;omega,by omega,hG.oil⟩;have hpar:∀x:Int,0<=x->x<n->par es s.pa x<n/\(0<=par es s.pa x↔0<=Ae s.pa x)/\(Ae s.pa x<0->Ae s.pa x= -1):=by
  intro x x0 x1;rcases hG.hang x x0 x1 (hS x x0 x1) with⟨h1,_⟩|⟨h1,h2,_⟩
  .unfold par;rw[h1,if_pos (by omega)];omega
  have:=BE hV h1 h2;unfold par;rw[if_neg (by omega)];omega
 have hH:VJ es s.pa s.he s.oi n:=by
  intro x x0 x1;have hat:=(hI.at x0 x1).2;unfold FC;rcases hG.hang x x0 x1 (hS x x0 x1) with⟨h1,h2⟩|⟨h1,h2,h3,h4,h5,h6⟩
  .rw[if_pos h1];exact decide_eq_true h2
  have hf:=BE hV h1 h2;rw[if_neg (by omega),if_neg (by rintro(h|h|h);omega;omega;exact h h4)];refine decide_eq_true ⟨h3,?_⟩;unfold CK at h5;rw[wr,DY (by omega)];exact h6
 have hget:∀v:Int,0<=v->v<n->Ae (plc n s.od) v=(s.od.idxOf v:Int):=by
  intro v v0 v1;unfold Ae plc;rw[A1U,List.getElem?_range (by omega)];show((s.od.idxOf ((v.toNat:Nat):Int):Nat):Int)=_;rw[A3B v0]
 have hP:Qi n (par es s.pa) (fun k=>Ae s.od k) (Ae (plc n s.od)):=by
  refine⟨fun k hk=>?_,fun k hk=>?_,fun v v0 v1=>?_,fun v v0 v1=>(hpar v v0 v1).1⟩
  .have hm:=BM (l:=s.od) (i:=(k:Int)) (by omega);have:=(hG.od _).1 (A1h hm);exact⟨this.1,this.2.1⟩
  .have hk':k<s.od.length:=by omega
   have hm:=BM (l:=s.od) (i:=(k:Int)) (by omega);have hr:=(hG.od _).1 (A1h hm);rw[hget _ hr.1 hr.2.1];have e:Ae s.od k=s.od[k]:=by rw[EF,A1d hk'];rfl
   rw[e,hG.nd.idxOf_getElem k hk']
  have hm:v∈s.od:=(hG.od v).2 ⟨v0,v1,hS v v0 v1⟩;have hlt:=List.idxOf_lt_length_iff.2 hm;rw[hget v v0 v1];refine⟨by omega,by omega,?_⟩;show Ae s.od ((s.od.idxOf v:Nat):Int)=v;rw[EF,A1d hlt,List.getElem_idxOf hlt];rfl
 have ha:∀x:Int,0<=x->x<n->0<=Ae (plc n s.od) x:=fun x x0 x1=>(hP.ao x x0 x1).1;have hNx:Next n (par es s.pa) (Ae (plc n s.od)) (fun k=>Ae s.od k):=by
  intro i hi hp;dsimp only at hp ⊢;have hx:=BM (l:=s.od) (i:=(i:Int)) (by omega);rw[A1g] at hx
  match i,hi,hp,hx with
  | 0,hi,hp,hx=>have:=hG.fst _ hx;omega
  | j+1,hi,hp,hx=>
   have hy:=BM (l:=s.od) (i:=(j:Int)) (by omega);rw[A1g] at hy;have hr:=(hG.od _).1 (A1h hy);refine⟨by omega,?_⟩;exact SE (fun x x0 x1=>(hpar x x0 x1).1) ha (hG.nxt j _ _ hy hx hp) hr.1 hr.2.1
 have hE:=I7 hP hNx;have hht:=heights hV hH hP hE;have hht2:∀v:Int,0<=v->v<n->0<=Ae s.he v/\Ae s.he v<n/\(Ae s.he v=0↔Ae s.pa v= -1)/\(0<=par es s.pa v->Ae s.he v=Ae s.he (par es s.pa v)+1):=by
  intro v v0 v1;have h1:=hP.ao v v0 v1;have:=hht (Ae (plc n s.od) v).toNat v v0 v1 (by omega);exact⟨this.1,by omega,this.2.2⟩
 rw[S2];unfold Jz;rw[if_pos ⟨hV,hL⟩,A1g];have hori:∀(j:Nat) h,s.oi[j]? =some h->(h=2*((0:Int)+j)\/h=2*(0+(j:Int))+1)/\(Ae s.pa (AD es h)=h\/(Ae s.he (AD es h)<Ae s.he (Aj es h)/\Qz es s (AD es h) (Aj es h))):=by
  intro j h hj;have hjl:=(A1e.1 hj).1;rw[hG.oil] at hjl;have e:Ae s.oi (j:Int)=h:=by rw[EF,hj];rfl
  have hfin:0<=Ae s.oi (j:Int):=by
   have hf:=BE hV (h:=2*(j:Int)) (by omega) (by omega);have:=hF _ hf.1 hf.2 (2*(j:Int)) ((Bb hV).2 ⟨by omega,by omega,rfl⟩);rwa [show 2*(j:Int) / 2=j by omega] at this
  rcases hG.ori (j:Int) (by omega) (by omega) with h1|⟨h1,_,_,h4⟩
  .omega
  rw[e] at h1 h4;exact⟨by omega,h4⟩
 simp only[A1P];refine⟨ML.2 hH,N5.2 fun v v0 v1=>?_,?_,Io.2 fun j h hj=>(hori j h hj).1,I2.2 fun h hh=>?_⟩
 .have:=hht2 v v0 v1;simp only[UO,decide_eq_true_eq];exact⟨this.1,this.2.1,this.2.2.1⟩
 .have:=(Rp hodl hP n 0 (List.replicate n false) [] (by omega) (by simp) (fun v v0 v1=>by
   have:=ha v v0 v1;rw[A2h,if_pos (by omega)];simp;omega) (fun _=>rfl) (fun x hx=>by simp at hx) (fun h=>by omega)).2 fun j _ hj=>hNx j hj;rwa [List.drop_zero] at this
 obtain⟨j,hj⟩:=List.getElem?_of_mem hh;have hjl:=(A1e.1 hj).1;rw[hG.oil] at hjl;have h1:=hori j h hj;have hf:=BE hV (h:=h) (by omega) (by omega);have ht:=Dg hV (h:=h) (by omega) (by omega);rcases h1.2 with h2|⟨h2,h3⟩
 .exact .inl h2
 refine .inr ⟨h2,(M8 hP (fun v v0 v1=>⟨(hht2 v v0 v1).1,(hht2 v v0 v1).2.2.2⟩) _ ht.1 n _ hf.2 (fun _=>(hht2 _ hf.1 hf.2).2.1)).2 ⟨hf.1,?_⟩⟩;exact SE (fun x x0 x1=>(hpar x x0 x1).1) ha h3 hf.1 hf.2
end
structure WkF (n:Nat) (es:List Pr) (pa he od oi:List Int):Prop where
 frs:CD es (Ae pa) (Ae he) (Ae oi) n
 pal:pa.length=n
 hel:he.length=n
 odl:od.length=n
 oil:oi.length=es.length
 hb:∀v:Int,0<=v->v<n->Ae he v<=es.length
 pb:∀v:Int,0<=v->v<n-> -1<=Ae pa v/\Ae pa v<es.length*2
 nod:od.Nodup
 mem:∀x,x∈od↔0<=x/\x<n
 ord:∀(i:Nat) x,od[i]? =some x->0<=Ae pa x->∃j,j<i/\od[j]? =some (Aj es (Ae pa x))
section
variable{n:Nat}{es:List Pr}{s:St}
theorem ZY{pa:List Int}{u w:Int}(h:Cy (par es pa) (fun _=>0) 0 u w):BJ es (Ae pa) u w:=by
 induction h with
 | refl=>exact .refl
 | @step w _ h2 _ ih=>
  unfold par at h2 ih;split at h2
  .omega
  rename_i c;rw[if_neg c] at ih;exact .step (by omega) ih
theorem Xw(hV:BX n es)(hI:Inv n es.length (es.length+n) s)(hR:Qu es n 0 (start n es.length) s):WkF n es s.pa s.he s.od s.oi:=by
 obtain⟨hG,hS,hF⟩:=L9 hV hR (Vh hV) (by omega) (by omega) (fun x x0 x1=>by omega) (fun x x0 x1 hs=>by
  exfalso;unfold CK Ae start at hs;simp only[A2h] at hs;rw[if_pos (by omega)] at hs;simp at hs);have hmem:∀x:Int,x∈s.od↔0<=x/\x<n:=fun x=>by
  rw[hG.od x];exact⟨fun h=>⟨h.1,h.2.1⟩,fun h=>⟨h.1,h.2,hS x h.1 h.2⟩⟩
 have hperm:s.od.Perm ((List.range n).map fun(v:Nat)=>(v:Int)):=by
  refine(A3F hG.nd ?_).2 fun x=>?_
  .exact List.Pairwise.map _ (fun a b h e=>h (by omega)) A2f
  rw[hmem x];simp only[A1G,A1r];constructor
  .rintro⟨h0,h1⟩;exact⟨x.toNat,by omega,by omega⟩
  rintro⟨y,hy,rfl⟩;omega
 have hodl:s.od.length=n:=by rw[hperm.length_eq];simp
 have hanc:∀(i:Nat) x,s.od[i]? =some x->∀u,Qz es s u x->∃j,j<=i/\s.od[j]? =some u:=by
  intro i
  induction i with
  | zero=>
   intro x hx u hu;rcases hu.split with rfl|⟨_,h,_⟩
   .exact⟨0,A1F _,hx⟩
   have:=hG.fst x hx;omega
  | succ i ih=>
   intro x hx u hu;rcases hu.split with rfl|⟨_,h,h2⟩
   .exact⟨_,A1F _,hx⟩
   have hlt:=(A1e.1 hx).1;obtain⟨y,hy⟩:∃y,s.od[i]? =some y:=⟨_,A1d (by omega)⟩;have h3:=hG.nxt i x y hy hx h;obtain⟨j,hj,hju⟩:=ih y hy u (h3.trans h2);exact⟨j,by omega,hju⟩
 refine⟨⟨hV,fun v v0 v1=>?_,fun e e0 e1=>?_,fun e e0 e1 hne=>?_,fun v v0 v1=>hS v v0 v1⟩,by have:=hG.pal;omega,by have:=hG.hel;omega,hodl,hG.oil,fun v v0 v1=>?_,fun v v0 v1=>?_,hG.nd,hmem,fun i x hx hp=>?_⟩
 .rcases hG.hang v v0 v1 (hS v v0 v1) with⟨h1,h2⟩|⟨h1,h2,h3,h4,h5,h6⟩
  .exact .inl ⟨by omega,h2⟩
  exact .inr ⟨⟨h1,h2⟩,h4,h3,h6⟩
 .have hfin:0<=Ae s.oi e:=by
   have hr:=BE hV (h:=2*e) (by omega) (by omega);have:=hF _ hr.1 hr.2 (2*e) ((Bb hV).2 ⟨by omega,by omega,rfl⟩);rwa [show 2*e / 2=e by omega] at this
  rcases hG.ori e e0 e1 with h|h
  .omega
  exact h.1
 .have hfin:0<=Ae s.oi e:=by
   have hr:=BE hV (h:=2*e) (by omega) (by omega);have:=hF _ hr.1 hr.2 (2*e) ((Bb hV).2 ⟨by omega,by omega,rfl⟩);rwa [show 2*e / 2=e by omega] at this
  rcases hG.ori e e0 e1 with h|⟨_,_,_,h⟩
  .omega
  rcases h with h|h
  .exact absurd h hne
  exact ZY h.2
 .have hlt:v.toNat<s.he.length:=by have:=hG.hel;omega
  have:=hI.hi v.toNat _ (BM hlt);omega
 .rcases hG.hang v v0 v1 (hS v v0 v1) with⟨h1,h2⟩|⟨h1,h2,_⟩<;>omega
 have hr:=(hmem x).1 (A1h hx);have hpe:par es s.pa x=Aj es (Ae s.pa x):=by unfold par;rw[if_neg (by omega)]
 have hf:0<=par es s.pa x:=by
  rw[hpe];rcases hG.hang x hr.1 hr.2 (hS x hr.1 hr.2) with⟨h1,_⟩|⟨h1,h2,_⟩
  .omega
  exact(BE hV h1 h2).1
 match i,hx with
 | 0,hx=>have:=hG.fst x hx;omega
 | i+1,hx=>
  have hlt:=(A1e.1 hx).1;obtain⟨y,hy⟩:∃y,s.od[i]? =some y:=⟨_,A1d (by omega)⟩;obtain⟨j,hj,hju⟩:=hanc i y hy _ (hG.nxt i x y hy hx hf);exact⟨j,by omega,by rw[hju,hpe]⟩
theorem WkF.hn{pa he od oi:List Int}(h:WkF n es pa he od oi):∀v:Int,0<=v->v<n->Ae he v<n:=by
 have key:∀(i:Nat) x,od[i]? =some x->Ae he x<=i:=by
  intro i
  induction i using Nat.strongRecOn with
  | ind i ih=>
   intro x hx;obtain⟨x0,x1⟩:=(h.mem x).1 (A1h hx);rcases h.frs.up x x0 x1 with⟨_,h2⟩|⟨h1,_,_,h4⟩
   .omega
   obtain⟨j,hj,hjo⟩:=h.ord i x hx h1.1;have:=ih j hj _ hjo;omega
 intro v v0 v1;obtain⟨i,hi⟩:=A1j.1 ((h.mem v).2 ⟨v0,v1⟩);have:=key i v hi;have:=(A1e.1 hi).1;have:=h.odl;omega
theorem Wl{pa he od oi:List Int}(h:WkF n es pa he od oi):oi.Nodup:=by
 unfold List.Nodup;rw[A2t];intro i j hi hj hij e;have hl:=h.oil;have a:=h.frs.ori i (by omega) (by omega);have b:=h.frs.ori j (by omega) (by omega);rw[EF,A1d hi] at a;rw[EF,A1d hj] at b;simp only[A2B] at a b;omega
end
theorem KW{N:Int}:∀{od:List Int} {i:Int} {a b:List Int},C4 N od i a=some b->∀x∈od,0<=x/\x<N
 | [],i,a,b,h,x,hx=>by cases hx
 | v::r,i,a,b,h,x,hx=>by
  rw[FH] at h;split at h
  .cases h
  rcases A1H.1 hx with rfl|hx
  .omega
  exact KW h x hx
theorem hang_ok{es:List Pr}{pa he oi:List Int}{v:Int}(h:FC es pa he oi v=true)(h0:0<=Ae pa v):Ae pa v<es.length*2/\AD es (Ae pa v)=v:=by
 unfold FC at h;rw[if_neg (by omega)] at h;split at h
 .cases h
 simp at h;exact⟨by omega,h.1⟩
theorem GC{N:Int}{es:List Pr}{pa he od oi:List Int}(h:¬(BX N es/\Len N es.length pa he od oi)):ES N es pa he od oi=false:=by unfold ES;rw[if_neg h]
theorem S3{N:Int}{es:List Pr}{pa he od oi:List Int}(h1:BX N es)(h2:Len N es.length pa he od oi):ES N es pa he od oi=
  match C4 N od 0 (List.replicate N.toNat (-1)) with
  | none=>false
  | some at'=>E4 es pa he oi N.toNat&&
   match VV es pa od at' N.toNat (List.replicate N.toNat 1) at' with
   | none=>false
   | some (_,la)=>H7 es pa at' la 0 oi:=by unfold ES;rw[if_pos ⟨h1,h2⟩];rfl
structure VI where
 k:Nat
 sz:List Int
 la:List Int
theorem GO{w0 w:World}{K:List Nat}{F:List Chunk}{gl cap t:Nat}{xs:List Int}{sp:List Value}(h1:xs.length<=cap)(h2:cap<=9223372036854775807)(h3:xs.length+sp.length=cap)
 (hw:AR w0 K w (AC gl t (AA xs++sp).toArray::F)):AR w0 K w (Bf (.slice (So gl) xs.length cap) t 1 (AA xs)::F):=
 Ca (by simp) (by decide) h1 h2 (by simp;omega) (by simp only[List.toList_toArray,A3d];rw[<-ints_length xs];exact A2T) hw
theorem Qm{N:Int}{es:List Pr}{va v0 v1 v2 v3:Value}{pa he od oi:List Int}{w:World}(hg:DX w va es)(h0:FD w v0 pa)(h1:FD w v1 he)(h2:FD w v2 od)(h3:FD w v3 oi):
  Calls A1c 90 #[.agg #[Iv N,va],.agg #[v0,v1,v2,v3]] w (Ret w [] fun v L=>L=[]/\v= .bool (ES N es pa he od oi)):=by
 have q0:=h0;have q1:=h1;have q2:=h2;have q3:=h3;have qg:=hg;obtain⟨A0,c0',rfl,r0,x0,y0,z0⟩:=q0;obtain⟨A1,c1',rfl,r1,x1,y1,z1⟩:=q1;obtain⟨A2,c2',rfl,r2,x2,y2,z2⟩:=q2;obtain⟨A3,c3',rfl,r3,x3,y3,z3⟩:=q3;obtain⟨A,cap,rfl,hr,hlc,hcm,hl⟩:=qg;refine cO Tryz.func90 Tryz.ntmps90<|Zs ?_;refine ZB fun g2=>?_;refine ZB fun g3=>?_;refine Za<|Zx<|Ai<|Zs ?_;refine CR [_,_] ?_;refine AL J J (AH PV J J J (fun w' hw=>Fc N es A cap w' (hr.keep0 hw) (by omega))) ?_;rintro _ ⟨b,rfl,hb⟩;refine Zz [2] ?_;refine AM 21 J (fun k1_3=>?_) (fun k1_3=>?_)
 .refine Zz [32]<|Zx ?_;refine Bn J<|Zs ?_;refine Za<|Zx<|At<|Ad ?_;refine DN 4 ?_;refine Zh ?_;exact⟨J,by rw[GC fun h=>by rw[hb.2 h.1] at k1_3;cases k1_3]⟩
 refine Zz [1,2,3] ?_;refine AM 29 J (fun k1_11=>?_) (fun k1_11=>?_)
 .refine Zz [24]<|Zx ?_;refine Bn J<|Zs ?_;refine Za<|Zx<|At<|Ad ?_;refine DN 4 ?_;refine Zh ?_;exact⟨J,by rw[GC fun h=>by have:=h.2.pa;simp at k1_11;omega]⟩
 refine Zz [1,2,3] ?_;refine AM 37 J (fun k1_19=>?_) (fun k1_19=>?_)
 .refine Zz [16]<|Zx ?_;refine Bn J<|Zs ?_;refine Za<|Zx<|At<|Ad ?_;refine DN 4 ?_;refine Zh ?_;exact⟨J,by rw[GC fun h=>by have:=h.2.he;simp at k1_19;omega]⟩
 refine Zz [1,2,3] ?_;refine AM 45 J (fun k1_27=>?_) (fun k1_27=>?_)
 .refine Zz [8]<|Zx ?_;refine Bn J<|Zs ?_;refine Za<|Zx<|At<|Ad ?_;refine DN 4 ?_;refine Zh ?_;exact⟨J,by rw[GC fun h=>by have:=h.2.od;simp at k1_27;omega]⟩
 refine Zz [1,2,3]<|Zx ?_;refine Zd ?_ ?_<;>intro c1
 .refine Zs<|Za<|Zx<|At<|Ad ?_;refine DN 4 ?_;refine Zh ?_;exact⟨J,by rw[GC fun h=>by have:=h.2.oi;simp at c1;omega]⟩
 have hV:BX N es:=hb.1 (by simpa using k1_3);have hLen:Len N es.length pa he od oi:=⟨by simpa using k1_11,by simpa using k1_19,by simpa using k1_27,by simp at c1;omega⟩;have hF:=S3 hV hLen;have hN0:=hV.lo;have hN1:=hV.hi;have hfew:=hV.few;obtain⟨Nn,rfl⟩:=A1n hN0;have hNn:Nn<=1048576:=by omega
 have l0:pa.length=Nn:=by have:=hLen.pa;omega
 have l1:he.length=Nn:=by have:=hLen.he;omega
 have l2:od.length=Nn:=by have:=hLen.od;omega
 have l3:oi.length=es.length:=hLen.oi;rw[A1g] at hF;clear k1_3 k1_11 k1_19 k1_27 c1 hb;refine Ao<|Aa<|Zs ?_;refine CR [_,_] ?_;refine CR [_,_,_,_] ?_;refine Bk J J (AH en122 J J J (fun w' hw=>Po hNn (h2.keep0 hw))) ?_;rintro v57 L57 hC57;obtain⟨p57,b57,rfl,hC⟩:∃p b,v57= .tuple #[p,.bool b]/\((b=false/\C4 Nn od 0 (List.replicate Nn (-1))=none)\/(b=true/\∃g at',C4 Nn od 0 (List.replicate Nn (-1))=some at'/\at'.length=Nn/\p= Sv g Nn/\L57=[AC g 3 (AA at').toArray])):=by
  rcases hC57 with⟨e1,e2,e3⟩|⟨g,at',e1,e2,e3,e4⟩
  .exact⟨_,_,e2,.inl ⟨J,e1⟩⟩
  exact⟨_,_,e3,.inr ⟨J,g,at',e1,e2,J,e4⟩⟩
 clear hC57;refine Zz [5]<|Zx<|Ai<|Zs ?_;refine Zz [2]<|Zx ?_;refine Zd ?_ ?_<;>intro c4
 .rcases hC with⟨rfl,hC⟩|⟨rfl,_⟩;rotate_left 1
  .simp at c4
  refine Zs<|Za<|Zx<|At<|Ad ?_;refine DN 4 ?_;refine Zh ?_;exact⟨J,by rw[hF,hC]⟩
 rcases hC with⟨rfl,_⟩|⟨rfl,ga,at',hpl,hal,rfl,rfl⟩
 .simp at c4
 have hodm:=KW hpl;rw[hpl] at hF;dsimp only at hF;simp only[zs];refine Ao<|Aa<|Ai<|Zs<|Zz [1,1]<|Zx<|As ?_;let ca:=AC g3 58 #[.slice A0 pa.length c0',.slice A1 he.length c1',.slice A2 od.length c2',.slice A3 oi.length c3'];let cb:=AC g2 24 #[Iv (Nn:Int),.slice A es.length cap];refine AS (ι:=Nat) (fun v=>v<=Nn/\∀x:Nat,x<v->FC es pa he oi x=true)
  (fun v=>[(2,Pv g2),(3,Pv g3),(5,Sv ga Nn),(63,Iv (Nn:Int)),(64,Iv v)])
  (fun v=>[AC ga 3 (AA at').toArray,ca,cb])
  (fun v=>Nn-v) 0 ⟨A1E _,fun _ h=>absurd h (A1w _)⟩ ⟨J,J,J,J,J,trivial⟩ (Ay _) ?_;rintro v ⟨hv,hha⟩;refine Zs<|Zc<|Zx<|Ai ?_;refine Zd ?_ ?_<;>intro c7
 .have hlt:v<Nn:=by simpa using c7
  refine Ao<|Aa<|Ai<|As<|Zs<|Zz [2]<|Zx<|Zs ?_;refine CR [_,_] ?_;refine CR [_,_,_,_] ?_;refine Zm ?_;refine AL J J (AH en123 J J J (fun w' hw=>R1 (hg.keep0 hw) hV (h0.keep0 hw) (h1.keep0 hw) (h3.keep0 hw) l0 l1 l3 (by omega) (by omega))) ?_;rintro _ rfl;refine Zz [1]<|Zx ?_;refine Zd ?_ ?_<;>intro c9
  .refine Zs<|Za<|Zx<|At<|Am<|Ad<|Ad<|Am<|Ad ?_;refine DN 4 ?_;refine Zh ?_;have:E4 es pa he oi Nn=false:=by
    unfold E4;rw[List.all_eq_false];exact⟨v,A1r.2 hlt,by simpa using c9⟩
   exact⟨J,by rw[hF,this];rfl⟩
  refine Ao<|An<|Aa<|Ak<|Zz [2]<|Az ?_;refine AB (v+1) (by omega) ⟨by omega,fun x hx=>?_⟩ ⟨J,J,J,J,J,trivial⟩ (Ay _);rcases A1i.1 hx with hx|rfl
  .exact hha x hx
  simpa using c9
 have hve:v=Nn:=by simp at c7;omega
 rw[hve] at hha;clear hve c7 hv;have hhf:E4 es pa he oi Nn=true:=by
  unfold E4;rw[A2c];intro x hx;exact hha x (A1r.1 hx)
 rw[hhf,A3S] at hF;refine AN<|Ag<|Ag<|Aq<|Aa<|Zs<|Zz [1,0] ?_;refine Bk J J (AH Y1 J J J (fun w' hw=>EG Nn 1 w' (by omega))) ?_;rintro _ _ ⟨gs,rfl,rfl⟩;simp only[zs];refine ZL #[] A1x Bw C6 fun g76=>?_;refine Zm ?_;refine AU J J (Bt (F:=[AC gs 3 (AA (List.replicate Nn 1)).toArray,AC ga 3 (AA at').toArray,AC g3 _ _,AC g2 _ _]) (vs:=[]) (k:=Nn) (news:=AA at') J J J A1x Bw Fz C6 J (by decide) (by decide)
  (fun w hw=>Ca (vs:=[]) (len:=0) (cap:=0) J (by decide) (A1F _) (by decide) J J hw) (.inl ⟨_,_,J,Ot⟩) (by simp[hal]) (CL at' []) (by simp;omega)) ?_;rintro vl _ rfl;simp only[A1N];refine Zz [2]<|Zx<|Ai<|Zs ?_;refine Zz [1,2]<|Zx<|As ?_;refine AS (ι:=VI) (fun j=>j.k<=Nn/\j.sz.length=Nn/\j.la.length=Nn/\VV es pa od at' j.k j.sz j.la=VV es pa od at' Nn (List.replicate Nn 1) at')
  (fun j=>[(2,Pv g2),(3,Pv g3),(5,Sv ga Nn),(8,Sv gs Nn),(9,vl),(10,Iv ((j.k:Int)-1))])
  (fun j=>[Bf vl 3 1 (AA j.la),AC gs 3 (AA j.sz).toArray,AC ga 3 (AA at').toArray,ca,cb])
  (fun j=>j.k) ⟨Nn,List.replicate Nn 1,at'⟩ ⟨A1F _,by simp,hal,J⟩ ⟨J,J,J,J,J,J,trivial⟩ (Ay _) ?_;rintro⟨k,sz,la⟩ ⟨hk,hsz,hla,hS⟩;dsimp only at hk hsz hla hS ⊢;refine Ai<|Zs<|Zz [2]<|Zx ?_;refine Zd ?_ ?_<;>intro c14
 .obtain⟨k,rfl⟩:∃k',k=k'+1:=⟨k-1,by simp at c14;omega⟩;have hodk:=BM (l:=od) (i:=(k:Int)) (by omega);have hvr:=hodm _ (A1h hodk);obtain⟨v,hv⟩:∃v,v=Ae od k:=⟨_,rfl⟩;rw[QJ,<-hv] at hS;rw[<-hv] at hodk hvr;obtain⟨a2,c2'',he2,x2'⟩:=h2.cell (i:=(k:Int)) (by omega) (by omega);cases he2;rw[<-hv] at x2';obtain⟨a0,c0'',he0,x0'⟩:=h0.cell (i:=v) hvr.1 (by omega);cases he0;have hlav:=BM (l:=la) (i:=v) (by omega);have hszv:=BM (l:=sz) (i:=v) (by omega);have hatv:=BM (l:=at') (i:=v) (by omega);refine DC.open (fun _ hn=>by have:=congrArg List.length hn;rw[ints_length,A2H] at this;omega) ?_;rintro gl len cl sp rfl hlen hlc2 hcl hsp;obtain rfl:len=la.length:=by simp at hlen;omega
  refine Ao<|Aa<|Ai<|As<|Zs<|Zz [1,1] ?_;refine Zi (ad':=a2.add k) A1x Bw ?_ (he:=by congr 1;omega);refine Zu (AG J J CA (A7 x2')) ?_;refine Za<|Zx<|Ai<|Ai ?_;refine Fv 100010001000 15 ?_;refine Yz [2] ?_;refine Yj ⟨gl,v.toNat,none⟩ ?_;refine Yh (AK (G7 hlav)) ?_;refine Yz [2] ?_;refine Yj ⟨ga,v.toNat,none⟩ ?_;refine Yh (AK (Br hatv)) ?_;refine Yz [2] ?_;refine Yj ⟨gs,v.toNat,none⟩ ?_;refine Yh (AK (Br hszv)) ?_;refine Yo J (Px J J J) ?_;refine Yo J (Yc J J J) ?_;refine Yz [1] ?_;refine AF J ?_;simp only[zq,zr];refine Aa ?_;refine Zd ?_ ?_<;>intro c17
  .refine Zs<|Za<|Zx<|At<|Ad<|Am<|Ad<|Ad<|Am<|Ad ?_;refine DN 4 ?_;refine Zh ?_;have e17:Ae la v≠wr (wr (Ae at' v+Ae sz v)-1):=by simpa [wr] using c17
   rw[if_pos e17] at hS;exact⟨J,by rw[hF,<-hS]⟩
  have e17:¬Ae la v≠wr (wr (Ae at' v+Ae sz v)-1):=by simpa [wr] using c17
  rw[if_neg e17] at hS;refine Ao<|Aa<|Ai<|Zs<|Zz [1,1] ?_;refine Zj (a0.add v.toNat) ?_;refine Zu (AG J J CA (A7 x0')) ?_;refine Zc<|Zx ?_;refine Zd ?_ ?_<;>intro c19
  .refine AN<|Ag<|Aq<|Aa<|Ak<|Zz [3]<|Az ?_;rw[if_pos (by simpa using c19)] at hS;refine Dl.own (fun w hw=>GO hlc2 hcl (by simp at hsp;omega) hw) ?_;refine AB (VI.mk k sz la) (by dsimp only;omega) ⟨by dsimp only;omega,hsz,hla,hS⟩ ⟨J,J,J,J,J,by rw[show((k:Nat):Int)-1=((k+1:Nat):Int)-1-1 by omega];rfl,trivial⟩ (Ay _)
  have hp0:0<=Ae pa v:=by simp at c19;omega
  rw[if_neg (by omega)] at hS;have hvn:((v.toNat:Nat):Int)=v:=A3B hvr.1;have hho:=hang_ok (by have:=hha v.toNat (by omega);rwa [hvn] at this) hp0;have hfr:=BE hV hp0 (by omega);obtain⟨u,hu⟩:∃u,u=Aj es (Ae pa v):=⟨_,rfl⟩;rw[<-hu] at hS hfr;have hlau:=BM (l:=la) (i:=u) (by omega);have hszu:=BM (l:=sz) (i:=u) (by omega);have hatu:=BM (l:=at') (i:=u) (by omega);refine Ao<|Aa<|Ai ?_;refine Fv 4100101 12 ?_;refine Bp J J J J (A4 (vs:=[_,_]) J J IL G2 J (AW J)) ?_;refine Yz [1,1] ?_;refine Yj (a0.add v.toNat) ?_;refine Yh (A7 x0') ?_;refine BF.rel0 J J J J (AH Vq J J J (fun w' hw=>Ho (hg.keep0 hw) hp0 (by omega))) ?_;rintro _ rfl;rw[<-hu];refine Yz [5] ?_;refine AF J ?_;simp only[zq,zr];refine Aa<|Ai<|Zs<|Zz [2] ?_;refine Zj ⟨ga,u.toNat,none⟩ ?_;refine Zu (AG J J CA (AK (Br hatu))) ?_;refine Zz [2]<|Zx ?_;refine Zd ?_ ?_<;>intro c21
  .refine Zs<|Za<|Zx<|At<|Ad<|Am<|Ad<|Ad<|Am<|Ad ?_;refine DN 4 ?_;refine Zh ?_;rw[if_pos (by simp at c21;omega)] at hS;exact⟨J,by rw[hF,<-hS]⟩
  rw[if_neg (by simp at c21;omega)] at hS;refine Ao<|Aa<|Ai ?_;refine Fv 30010001000 11 ?_;refine Yz [2] ?_;refine Yj ⟨gs,u.toNat,none⟩ ?_;refine Yh (AK (Br hszu)) ?_;refine Yz [2] ?_;refine Yj ⟨gs,v.toNat,none⟩ ?_;refine Yh (AK (Br hszv)) ?_;refine Yo J (Px J J J) ?_;refine Yj ⟨gs,u.toNat,none⟩ ?_;refine AO J J J J (AP (cs':=(AA (sz.set u.toNat (wr (Ae sz u+Ae sz v)))).toArray) J J J Bw J (by simp;omega) BP) PN ?_;refine AF J ?_;simp only[zq,zr];refine Aa ?_;refine Fv 3001000100000 13 ?_;refine Yz [4] ?_;refine Yj ⟨gl,u.toNat,none⟩ ?_;refine Yh (AK (G7 hlau)) ?_;refine Yz [2] ?_;refine Yj ⟨gl,v.toNat,none⟩ ?_;refine Yh (AK (G7 hlav)) ?_;refine Yo J (Rk J J J) ?_;refine Yj ⟨gl,u.toNat,none⟩ ?_;refine AO J J J J (AP (cs':=(AA (la.set u.toNat (max (Ae la u) (Ae la v)))++sp).toArray) J J J Bw J (by simp;omega) (Pa (by omega))) PN ?_;refine AF J ?_;simp only[zq,zr];refine An<|Aa<|Ak<|Zz [3]<|Az ?_;refine Dl.own (fun w hw=>GO (xs:=la.set u.toNat (max (Ae la u) (Ae la v))) (by rw[List.length_set];exact hlc2) hcl (by simp at hsp ⊢;omega) hw) ?_;refine AB (VI.mk k (sz.set u.toNat (wr (Ae sz u+Ae sz v))) (la.set u.toNat (max (Ae la u) (Ae la v)))) (by dsimp only;omega) ⟨by dsimp only;omega,by simp[hsz],by simp[hla],hS⟩ ⟨J,J,J,J,J,by rw[show((k:Nat):Int)-1=((k+1:Nat):Int)-1-1 by omega];rfl,trivial⟩ (.cons' 0 J (by simp) (Ay _))
 obtain rfl:k=0:=by simp at c14;omega
 rw[<-hS] at hF;replace hF:ES Nn es pa he od oi=H7 es pa at' la 0 oi:=hF;refine AN<|Ag<|Ag<|Aq<|Aa<|Ai<|Zs<|Zz [1,2]<|Zx<|As ?_;refine AS (ι:=Nat) (fun e=>e<=oi.length/\H7 es pa at' la e (oi.drop e)=H7 es pa at' la 0 oi)
  (fun e=>[(2,Pv g2),(3,Pv g3),(5,Sv ga Nn),(9,vl),(151,.slice A3 oi.length c3'),(152,Iv oi.length),(153,Iv e)])
  (fun e=>[Bf vl 3 1 (AA la),AC ga 3 (AA at').toArray,ca,cb])
  (fun e=>oi.length-e) 0 ⟨A1E _,J⟩ ⟨J,J,J,J,J,J,J,trivial⟩ (Bg (BC (BC (BC .nil)))) ?_;rintro e ⟨hi,hL⟩;refine Zs<|Zc<|Zx<|Ai ?_;refine Zd ?_ ?_<;>intro c26
 .have hlt:e<oi.length:=by simpa using c26
  obtain⟨h,hh⟩:∃h,oi[e]? =some h:=⟨_,A1d hlt⟩;have hdrop:oi.drop e=h::oi.drop (e+1):=by rw[A2e hlt,(A1e.1 hh).2]
  rw[hdrop,MC] at hL;obtain⟨a3,rfl,x3'⟩:=r3.int hh;refine Ao<|Aa<|Ai<|As<|Zs<|Zm ?_;refine Zj (a3.add e) ?_;refine Zu (AG J J CA (A7 x3')) ?_;refine Zz [2]<|Zx<|Ai<|Zs ?_;refine Zz [2] ?_;refine Zo (Dz J J J (by omega)) ?_;refine Zz [2] ?_;refine AM 162 J (fun k28_4=>?_) (fun k28_4=>?_)
  .refine Zz [2] ?_;refine Zo (Dz J J J (by omega)) ?_;refine Zz [3]<|Zx ?_;refine Zd ?_ ?_<;>intro c28
   .refine Zs<|Za<|Zx<|At<|Ad<|Am<|Ad<|Ad<|Am<|Ad ?_;refine DN 4 ?_;refine Zh ?_;rw[if_pos (by simp at k28_4 c28;omega)] at hL;exact⟨J,by rw[hF,<-hL]⟩
   refine Ao<|Aa<|Ai ?_;have hne:¬(h≠2*(e:Int)/\h≠2*(e:Int)+1):=by first|(simp at k28_4 c28;omega)|(simp at k28_4;omega)
   rw[if_neg hne] at hL;have hm0:0<=h:=by omega
   have hm1:h<es.length*2:=by omega
   have hfr:=BE hV hm0 hm1;have htr:=Dg hV hm0 hm1;have hatv:=BM (l:=at') (i:=Aj es h) (by omega);have hatw:=BM (l:=at') (i:=AD es h) (by omega);have hlaw:=BM (l:=la) (i:=AD es h) (by omega);obtain⟨a0,c0'',he0,x0'⟩:=h0.cell (i:=AD es h) htr.1 (by omega);cases he0;refine DC.open (fun _ hn=>by have:=congrArg List.length hn;rw[ints_length,A2H] at this;omega) ?_;rintro gl len cl sp rfl hlen hlc2 hcl hsp;obtain rfl:len=la.length:=by simp at hlen;omega
   refine Ak ?_;refine CR [_,_] ?_;refine Zm ?_;refine AL J J (AH Vq J J J (fun w' hw=>Ho (hg.keep0 hw) hm0 hm1)) ?_;rintro _ rfl;refine Zz [5]<|Zx<|Ai ?_;refine Fv 10001000001000100000010010 29 ?_;refine Yz [1,1] ?_;refine Yj (a0.add (AD es h).toNat) ?_;refine Yh (A7 x0') ?_;refine Yz [3] ?_;refine BF.split 182 J (fun k31_7=>?_) (fun k31_7=>?_)
   .refine Yz [2] ?_;refine Yj ⟨ga,(AD es h).toNat,none⟩ ?_;refine Yh (AK (Br hatw)) ?_;refine Yz [2] ?_;refine Yj ⟨ga,(Aj es h).toNat,none⟩ ?_;refine Yh (AK (Br hatv)) ?_;refine Yz [2] ?_;refine BF.split 192 J (fun k31_17=>?_) (fun k31_17=>?_)
    .refine Yz [11] ?_;refine AF J ?_;simp only[zq,zr];refine Aa ?_;refine Bn J<|Zs ?_;refine Za<|Zx<|At<|Am<|Ad<|Ad<|Am<|Ad ?_;refine DN 4 ?_;refine Zh ?_;rw[if_pos (by simp at k31_7 k31_17;exact⟨k31_7,.inl k31_17⟩)] at hL;exact⟨J,by rw[hF,<-hL]⟩
    refine Yz [2] ?_;refine Yj ⟨ga,(Aj es h).toNat,none⟩ ?_;refine Yh (AK (Br hatv)) ?_;refine Yz [2] ?_;refine Yj ⟨gl,(AD es h).toNat,none⟩ ?_;refine Yh (AK (G7 hlaw)) ?_;refine Yz [3] ?_;refine AF J ?_;simp only[zq,zr];refine Aa ?_;refine Zd ?_ ?_<;>intro c31
    .refine Zs<|Za<|Zx<|At<|Am<|Ad<|Ad<|Am<|Ad ?_;refine DN 4 ?_;refine Zh ?_;rw[if_pos (by simp at k31_7 k31_17 c31;exact⟨k31_7,.inr c31⟩)] at hL;exact⟨J,by rw[hF,<-hL]⟩
    refine Ao<|An<|Aa<|Ak<|Zz [2]<|Az ?_;rw[if_neg (by simp at k31_7 k31_17 c31;intro h5;omega)] at hL;refine Dl.own (fun w hw=>GO hlc2 hcl (by simp at hsp;omega) hw) ?_;refine AB (e+1) (by omega) ⟨by omega,hL⟩ ⟨J,J,J,J,J,J,J,trivial⟩ (Ay _)
   refine Yz [21] ?_;refine AF J ?_;simp only[zq,zr];refine Aa ?_;refine BN J<|Ao<|An<|Aa<|Ak ?_;refine Zz [2]<|Az ?_;rw[if_neg (by simp at k31_7;intro h5;omega)] at hL;refine Dl.own (fun w hw=>GO hlc2 hcl (by simp at hsp;omega) hw) ?_;refine AB (e+1) (by omega) ⟨by omega,hL⟩ ⟨J,J,J,J,J,J,J,trivial⟩ (Ay _)
  refine Zz [6]<|Zx ?_;refine BN J<|Ao<|Aa<|Ai ?_;have hne:¬(h≠2*(e:Int)/\h≠2*(e:Int)+1):=by first|(simp at k28_4 c28;omega)|(simp at k28_4;omega)
  rw[if_neg hne] at hL;have hm0:0<=h:=by omega
  have hm1:h<es.length*2:=by omega
  have hfr:=BE hV hm0 hm1;have htr:=Dg hV hm0 hm1;have hatv:=BM (l:=at') (i:=Aj es h) (by omega);have hatw:=BM (l:=at') (i:=AD es h) (by omega);have hlaw:=BM (l:=la) (i:=AD es h) (by omega);obtain⟨a0,c0'',he0,x0'⟩:=h0.cell (i:=AD es h) htr.1 (by omega);cases he0;refine DC.open (fun _ hn=>by have:=congrArg List.length hn;rw[ints_length,A2H] at this;omega) ?_;rintro gl len cl sp rfl hlen hlc2 hcl hsp;obtain rfl:len=la.length:=by simp at hlen;omega
  refine Ak ?_;refine CR [_,_] ?_;refine Zm ?_;refine AL J J (AH Vq J J J (fun w' hw=>Ho (hg.keep0 hw) hm0 hm1)) ?_;rintro _ rfl;refine Zz [5]<|Zx<|Ai ?_;refine Fv 10001000001000100000010010 29 ?_;refine Yz [1,1] ?_;refine Yj (a0.add (AD es h).toNat) ?_;refine Yh (A7 x0') ?_;refine Yz [3] ?_;refine BF.split 182 J (fun k31_7=>?_) (fun k31_7=>?_)
  .refine Yz [2] ?_;refine Yj ⟨ga,(AD es h).toNat,none⟩ ?_;refine Yh (AK (Br hatw)) ?_;refine Yz [2] ?_;refine Yj ⟨ga,(Aj es h).toNat,none⟩ ?_;refine Yh (AK (Br hatv)) ?_;refine Yz [2] ?_;refine BF.split 192 J (fun k31_17=>?_) (fun k31_17=>?_)
   .refine Yz [11] ?_;refine AF J ?_;simp only[zq,zr];refine Aa ?_;refine Bn J<|Zs ?_;refine Za<|Zx<|At<|Am<|Ad<|Ad<|Am<|Ad ?_;refine DN 4 ?_;refine Zh ?_;rw[if_pos (by simp at k31_7 k31_17;exact⟨k31_7,.inl k31_17⟩)] at hL;exact⟨J,by rw[hF,<-hL]⟩
   refine Yz [2] ?_;refine Yj ⟨ga,(Aj es h).toNat,none⟩ ?_;refine Yh (AK (Br hatv)) ?_;refine Yz [2] ?_;refine Yj ⟨gl,(AD es h).toNat,none⟩ ?_;refine Yh (AK (G7 hlaw)) ?_;refine Yz [3] ?_;refine AF J ?_;simp only[zq,zr];refine Aa ?_;refine Zd ?_ ?_<;>intro c31
   .refine Zs<|Za<|Zx<|At<|Am<|Ad<|Ad<|Am<|Ad ?_;refine DN 4 ?_;refine Zh ?_;rw[if_pos (by simp at k31_7 k31_17 c31;exact⟨k31_7,.inr c31⟩)] at hL;exact⟨J,by rw[hF,<-hL]⟩
   refine Ao<|An<|Aa<|Ak<|Zz [2]<|Az ?_;rw[if_neg (by simp at k31_7 k31_17 c31;intro h5;omega)] at hL;refine Dl.own (fun w hw=>GO hlc2 hcl (by simp at hsp;omega) hw) ?_;refine AB (e+1) (by omega) ⟨by omega,hL⟩ ⟨J,J,J,J,J,J,J,trivial⟩ (Ay _)
  refine Yz [21] ?_;refine AF J ?_;simp only[zq,zr];refine Aa ?_;refine BN J<|Ao<|An<|Aa<|Ak ?_;refine Zz [2]<|Az ?_;rw[if_neg (by simp at k31_7;intro h5;omega)] at hL;refine Dl.own (fun w hw=>GO hlc2 hcl (by simp at hsp;omega) hw) ?_;refine AB (e+1) (by omega) ⟨by omega,hL⟩ ⟨J,J,J,J,J,J,J,trivial⟩ (Ay _)
 refine AN<|Ag<|Ag<|Aq<|Aa<|Zs<|Za<|Zx<|At ?_;refine DN 4 ?_;refine Zh ?_;have hie:e=oi.length:=by simp at c26;omega
 subst hie;rw[A3L] at hL;exact⟨J,by rw[hF,<-hL];rfl⟩
theorem p_and1{P:Program}{n:Nat}{ds:List Deferred}{E:Env}{o:Oper}{x y:Operand}{t t':Nat}{i:Int}(ho:o.op= .binOp .and t x y t')(hx:ev n E x=some (Iv i))(hy:ev n E y=some (Iv 1))(hi:0<=i/\i<=9223372036854775807):
  EL P n ds E o (Iv (i%2)):=by
 refine Ff (r:=0) ho hx hy fun w=>?_;have h:(binOp .and t (Iv i) (Iv 1))=Op.intBits .and .i64 i 1:=binOp_and ..;rw[h];obtain⟨k,rfl⟩:=A1n hi.1;have hk:k<2^63:=by have:=hi.2;omega
 have e1:BitVec.ofInt 64 (k:Int)=BitVec.ofNat 64 k:=by simp
 have e2:(BitVec.ofNat 64 k &&& BitVec.ofInt 64 1).toNat=k &&& 1:=by
  rw[BitVec.toNat_and];have:(BitVec.ofInt 64 1).toNat=1:=by decide
  rw[this,BitVec.toNat_ofNat,A2y (by omega)]
 have e3:((k &&& 1:Nat):Int)=(k:Int)%2:=by rw[Nat.and_one_is_mod];omega
 have e4:(Op.intBits .and .i64 (k:Int) 1).run P w= .ok (Iv (IntKind.i64.wrap ((BitVec.ofInt 64 (k:Int) &&& BitVec.ofInt 64 1).toNat:Int))) w:=rfl;rw[e4,e1,e2,DY (i:=((k &&& 1:Nat):Int)) (by rw[e3];omega),e3]
abbrev Nm(ga gb:Nat)(p:Int×Int):List Chunk:=[AC ga 3 #[Iv p.1],AC gb 3 #[Iv p.2]]
abbrev tellV(ga gb:Nat):Value:=.func (.func 92) #[] #[Pv ga,Pv gb]
abbrev twoV(ga gb:Nat):Value:=.func (.func 93) #[] #[Pv ga,Pv gb]
theorem JM(w:World):Calls A1c 50 #[] w (Ret w [] fun r L=>∃ga gb,r= .tuple #[tellV ga gb,twoV ga gb]/\L=Nm ga gb (mx,mx)):=by
 refine cO Tryz.func50 Tryz.ntmps50<|Zs ?_;refine Zz [2]<|Zx<|Zs ?_;refine ZA C6 fun g2=>?_;refine ZA C6 fun g3=>?_;refine Jj #[_] ?_;refine Jj #[_]<|Zx<|Zs ?_;refine Zo (Fu J J J) ?_;refine Za<|Zx<|Zs ?_;refine Zm ?_;refine Zo (Fu J J J) ?_;refine Zz [2]<|Zx<|At ?_;refine AZ (E':=[(0,_),(1,_)]) ⟨J,J,trivial⟩ (BC (Bg .nil)) ?_;refine Bq (.inl J) J J J ?_;exact⟨g2,g3,J,J⟩
section
variable{w:World}{ga gb:Nat}{p:Int×Int}
theorem Em(h:Int)(hO:AR w (AY (Nm ga gb p)) w (Nm ga gb p)):Calls A1c 92 #[Iv h,Pv ga,Pv gb] w (Ret w (AY (Nm ga gb p)) fun r M=>r= .tuple #[]/\M=Nm ga gb (CV p h)):=by
 refine BO (args:=[_,_,_]) Tryz.func92 J Tryz.ntmps92 J hO<|As<|Zs ?_;refine Zz [1,2]<|Zx ?_;refine Zd ?_ ?_<;>intro c0
 .refine Ak<|Zz [1,0] ?_;refine Jj #[_] ?_;refine Jj #[_]<|Az<|An ?_;refine BQ (.inr J) J ?_;have h1:h<p.1:=by simpa using c0
  exact⟨J,by unfold CV;rw[if_pos h1]⟩
 refine Zs<|Zz [1,2] ?_;refine AM 14 J (fun k2_3=>?_) (fun k2_3=>?_)
 .refine Zz [1,3]<|Zx ?_;refine Zd ?_ ?_<;>intro c2
  .refine Ak<|Zm ?_;refine Jj #[_]<|Az<|An ?_;refine BQ (.inr J) J ?_;have h1:¬h<p.1:=by simpa using c0
   exact⟨J,by unfold CV;rw[if_neg h1,if_pos (by simp at k2_3 c2;omega)]⟩
  refine Ao<|An ?_;refine BQ (.inr J) J ?_;have h1:¬h<p.1:=by simpa using c0
  exact⟨J,by unfold CV;rw[if_neg h1,if_neg (by simp at k2_3 c2;omega)]⟩
 refine Zz [5]<|Zx ?_;refine Zd ?_ ?_<;>intro c2
 .refine Ak<|Zm ?_;refine Jj #[_]<|Az<|An ?_;refine BQ (.inr J) J ?_;exact absurd c2 (by simp)
 refine Ao<|An ?_;refine BQ (.inr J) J ?_;have h1:¬h<p.1:=by simpa using c0
 exact⟨J,by unfold CV;rw[if_neg h1,if_neg (by simp at k2_3;omega)]⟩
theorem NT(h1:w.heap[ga]? =some (.cells #[Iv p.1] 3 (0,0)))(h2:w.heap[gb]? =some (.cells #[Iv p.2] 3 (0,0))):
  Calls A1c 93 #[Pv ga,Pv gb] w (Ret w [] fun r M=>M=[]/\r= .tuple #[Iv p.1,Iv p.2]):=by
 refine cO Tryz.func93 Tryz.ntmps93<|Zs ?_;refine Zz [2]<|Zx<|Ai ?_;refine Fv 11 4 ?_;refine Yh (Bh h1 J) ?_;refine Yh (Bh h2 J) ?_;refine Yz [2] ?_;refine AF J ?_;simp only[zq,zr];refine Aa<|At ?_;refine Bq (.inl J) J J J ?_;exact⟨J,J⟩
end
section
variable{w:World}{N:Int}{es:List Pr}{va v0 v1 v2 v3:Value}{pa he od oi:List Int}
theorem RN{e:Int}(hE:DX w va es)(h3:FD w v3 oi)(h0:0<=e)(h1:e<es.length)(hl:oi.length=es.length)(ho:Ae oi e=2*e\/Ae oi e=2*e+1):
  Calls A1c 48 #[.agg #[Iv N,va],.agg #[v0,v1,v2,v3],Iv e] w (Ret w [] fun v L=>L=[]/\v= .tuple #[Iv (Aj es (Ae oi e)),Iv (AD es (Ae oi e))]):=by
 obtain⟨A,cap,rfl,hr,hlc,hcm,hlE⟩:=hE;obtain⟨ad3,cap3,hv3,hc3⟩:=h3.cell (i:=e) h0 (by omega);obtain⟨A3,c3,hv3',_,hlc3,hcm3,hl3⟩:=h3;rw[hv3] at hv3';cases hv3';subst hv3;obtain⟨x,hx⟩:∃x,es[e.toNat]? =some x:=⟨_,A1d (by omega)⟩;obtain⟨ad,rfl,hU,hV⟩:=hr.pair hx;obtain⟨f1,f2⟩:=Ek hx;have a1:Aj es (2*e)=x.1:=by unfold Aj;rw[if_pos (by omega),show(2*e).toNat=2*e.toNat by omega,f1];rfl
 have a2:Aj es (2*e+1)=x.2:=by unfold Aj;rw[if_pos (by omega),show(2*e+1).toNat=2*e.toNat+1 by omega,f2];rfl
 have a3:AD es (2*e)=x.2:=by unfold AD tw;rw[if_pos (by omega),if_pos (by omega),a2]
 have a4:AD es (2*e+1)=x.1:=by unfold AD tw;rw[if_pos (by omega),if_neg (by omega),show 2*e+1-1=2*e by omega,a1]
 have ho0:0<=Ae oi e:=by omega
 refine cO Tryz.func48 Tryz.ntmps48<|Zs ?_;refine ZB fun g3=>?_;refine ZB fun g4=>?_;refine Zz [2]<|Zx<|Ai ?_;refine Fv 100010100010 14 ?_;refine Yz [1,1] ?_;refine Yo J (Bz (ad':=ad.add (e.toNat*2)) J J J A1y CF (by omega) (by omega) J) ?_;refine Yf T8 ?_;refine Yh (A7 hU) ?_;refine Yz [1,1] ?_;refine Yo J (Bz (ad':=ad.add (e.toNat*2)) J J J A1y CF (by omega) (by omega) J) ?_;refine Yf YY ?_;refine Yg ?_ (hh:=by exact(A7 (by rw[Kc _ _ _ (by decide)];exact hV)));refine Yz [2] ?_;refine AF J ?_;simp only[zq,zr];refine Aa<|Ai<|Zs<|Zz [1,1] ?_;refine Zj (ad3.add e.toNat) ?_;refine Zu (AG J J CA (A7 hc3)) ?_;refine Zo (p_and1 J J J (by omega)) ?_;refine Zz [1]<|Zx ?_;refine Zd ?_ ?_<;>intro c2
 .refine Zs<|Zz [4]<|Zx<|At<|Ad ?_;refine Lm 6 7 ?_;refine Bq (.inl J) J J J ?_;have:Ae oi e=2*e+1:=by simp at c2;omega
  exact⟨J,by rw[this,a2,a4]⟩
 refine Ao<|Aa<|Zs<|Zz [4]<|Zx<|At ?_;refine Lm 6 7 ?_;refine Bq (.inl J) J J J ?_;have:Ae oi e=2*e:=by simp at c2;omega
 exact⟨J,by rw[this,a1,a3]⟩
theorem Sa(hg:DX w va es)(h0:FD w v0 pa)(h1:FD w v1 he)(h2:FD w v2 od)(h3:FD w v3 oi)(hV:BX N es)(hv:ES N es pa he od oi=true):
  Calls A1c 47 #[.agg #[Iv N,va],.agg #[v0,v1,v2,v3]] w (Ret w [] fun v L=>L=[]/\v= Iv 0):=by
 have hg':=hg;obtain⟨A,cap,rfl,hr,hlc,hcm,hlE⟩:=hg;refine cO Tryz.func47 Tryz.ntmps47<|Zs ?_;refine ZB fun g2=>?_;refine ZB fun g3=>?_;refine Za<|Zx<|Ai<|As<|Zs ?_;refine CR [_,_] ?_;refine AL J J (AH PV J J J (fun w' hw=>Fc N es A cap w' (hr.keep0 hw) (by omega))) ?_;rintro _ ⟨b,rfl,hb⟩;refine Zz [2]<|Zx ?_;refine Zd ?_ ?_<;>intro c1
 .exact absurd (hb.2 hV) (by simpa using c1)
 refine Zs ?_;refine CR [_,_] ?_;refine CR [_,_,_,_] ?_;refine AL J J (AH en90 J J J (fun w' hw=>Qm (hg'.keep0 hw) (h0.keep0 hw) (h1.keep0 hw) (h2.keep0 hw) (h3.keep0 hw))) ?_;rintro _ rfl;refine Zz [2]<|Zx ?_;refine Zd ?_ ?_<;>intro c3
 .exact absurd hv (by simpa using c3)
 refine Ao<|An<|Aa<|Zs<|Za<|Zx<|At ?_;refine DN 4 ?_;refine Zh ?_;exact⟨J,J⟩
end
theorem ZK(ks:List Int)(k:Int):Qt ks k<=ks.length:=A2n
theorem ZD{ks:List Int}(h:∀x,x∈ks->0<=x):Vu ks 0=0:=by
 unfold Vu;rw[A3v];intro x hx;have:=h x hx;simp;omega
def bgA(ks:List Int)(i x:Nat):Int:=if x=0 then 0 else(Qt (ks.take i) ((x:Int)-1):Nat)
def ZU(ks:List Int)(j x:Nat):Int:=if x<=j then(Vu ks x:Nat) else(Qt ks ((x:Int)-1):Nat)
def bgC(ks:List Int)(mo i x:Nat):Int:=if x<=mo then((Vu ks x+Qt (ks.take i) x:Nat):Int) else(Qt ks ((x:Int)-1):Nat)
section
variable{w:World}{ks:List Int}{vk:Value}
theorem Q7(hK:FD w vk ks)(hk:∀x,x∈ks->0<=x/\x<=4194304)(hn:ks.length<=4194304):
  Calls A1c 97 #[vk] w (Ret w [] fun r M=>∃A c,r= .slice A ks.length c/\(0<ks.length->∃ad,A=some ad)/\M=[Bf (.slice A ks.length c) 3 1 (AA (BA ks.length fun i=>(KT ks i:Nat)))]):=by
 obtain⟨A,cap,rfl,hr,hlc,hcm,hl⟩:=hK;refine cO Tryz.func97 Tryz.ntmps97<|Zs ?_;refine Za<|Zx<|Zs ?_;refine Za<|Zx<|Ai<|Zs ?_;refine Zz [3]<|Zx<|As ?_;refine AS (ι:=Nat×Nat) (fun j=>j.1<=ks.length/\j.2<=4194304/\∀(i:Nat) x,i<j.1->ks[i]? =some x->x<=j.2)
  (fun j=>[(0,.slice A ks.length cap),(3,.int .i64 (j.2:Nat)),(13,.slice A ks.length cap),(14,.int .i64 (ks.length:Nat)),(15,.int .i64 (j.1:Nat))]) (fun _=>[]) (fun j=>ks.length-j.1) (0,0) ⟨A1E _,A1E _,fun i x h=>absurd h (A1w _)⟩ ⟨J,J,J,J,J,trivial⟩ (Ay _) ?_;rintro⟨i,mo⟩ ⟨hi,hmo,hmx⟩;dsimp only at hi hmo hmx ⊢;refine Zs<|Zc<|Zx<|Ai ?_;refine Zd ?_ ?_<;>intro c3
 .have hlt:i<ks.length:=by simpa using c3
  obtain⟨ad,rfl,hc⟩:=hr.int (CC hlt);have hkr:=hk _ (A1h (CC hlt));refine Ao<|Aa<|Ai<|As<|Zs<|Zi A1x Bw ?_;refine Zu (AG J J CA (A7 hc)) ?_;refine Za<|Zx<|Ak ?_;refine Zz [2] ?_;refine Zo (Rk J J J) ?_;refine Za<|Az<|An<|Aa<|Ak ?_;refine Zz [2]<|Az ?_;have e:max (mo:Int) (Ae ks i)=((max mo (Ae ks i).toNat:Nat):Int):=by omega
  rw[e];exact AB (i+1,max mo (Ae ks i).toNat) (by dsimp only;omega) ⟨by dsimp only;omega,by dsimp only;omega,fun q x hq hx=>by
   dsimp only at hq ⊢;by_cases c:q<i
   .have:=hmx q x c hx;omega
   have:q=i:=by omega
   subst this;rw[CC hlt] at hx;have:=Option.some.inj hx;omega⟩ ⟨rfl,rfl,rfl,rfl,rfl,trivial⟩ (Ay _)
 refine AN<|Ag<|Ag<|Aq<|Aa<|Ai<|Zs<|Zz [3]<|Zx ?_;refine Zd ?_ ?_<;>intro c7
 .refine Zs<|Za<|Zx<|At<|Ad ?_;refine Dl.own (fun w hw=>Ck (t:=3) (m:=1) hw) ?_;refine AZ (E':=[(2,_)]) ⟨J,trivial⟩ (Ay _) ?_;refine Zh ?_;have:ks=[]:=A1s (by simpa using c7);subst this;exact⟨none,0,J,fun h=>absurd h (by simp),J⟩
 have hie:i=ks.length:=by simp at c3;omega
 have hmx2:∀x,x∈ks->x<=mo:=fun x hx=>by
  obtain⟨q,hq⟩:=A1j.1 hx;exact hmx q x (by have:=(A1e.1 hq).1;omega) hq
 clear hmx hie hi;refine Ao<|Aa<|Zs<|Zz [2] ?_;refine Zw (B6 (k:=mo+2) J J J A1x Bw Fz C6 J (by omega) (by omega) (BS _)) fun g28=>?_;refine Za<|Zx<|Ai<|Zs ?_;refine Zz [3]<|Zx<|As ?_;refine AS (ι:=Nat) (fun j=>j<=ks.length)
  (fun j=>[(0,.slice A ks.length cap),(3,.int .i64 (mo:Nat)),(6,.slice (some ⟨g28,0,none⟩) (mo+2) (mo+2)),(29,.slice A ks.length cap),(30,.int .i64 (ks.length:Nat)),(31,.int .i64 (j:Nat))])
  (fun j=>[AC g28 3 (AA (BA (mo+2) (bgA ks j))).toArray]) (fun j=>ks.length-j) 0 (A1E _) ⟨J,J,J,J,J,J,trivial⟩ (.cons' 0 J (Bi fun x _=>by unfold bgA Qt;split<;>simp) .nil) ?_;intro i hi;refine Zs<|Zc<|Zx<|Ai ?_;refine Zd ?_ ?_<;>intro c11
 .have hlt:i<ks.length:=by simpa using c11
  obtain⟨ad,rfl,hc⟩:=hr.int (CC hlt);obtain⟨k0,k1⟩:=hk _ (A1h (CC hlt));have k2:=hmx2 _ (A1h (CC hlt));have hb:0<=bgA ks i (Ae ks i+1).toNat/\bgA ks i (Ae ks i+1).toNat<=4194304:=by
   have:=ZK (ks.take i) (((Ae ks i+1).toNat:Nat)-1);have:(ks.take i).length<=ks.length:=by simp;omega
   unfold bgA;split<;>omega
  refine Ao<|Aa<|Ai<|As<|Zs<|Zi A1x Bw ?_;refine Zu (AG J J CA (A7 hc)) ?_;refine Za<|Zx<|Ak ?_;refine Zz [3] ?_;refine Zj ⟨g28,(Ae ks i+1).toNat,none⟩ ?_;refine Zu (AG J J CA (AK (BB (by omega)))) ?_;refine Zp ?_;refine Zj ⟨g28,(Ae ks i+1).toNat,none⟩ ?_;refine Zy (AP (cs':=(AA (BA (mo+2) (upd (bgA ks i) (Ae ks i+1).toNat (bgA ks i (Ae ks i+1).toNat+1)))).toArray) J J J Bw J (by simp;omega) BU)<|Az<|An<|Aa<|Ak ?_;refine Zz [2]<|Az ?_;refine AB (i+1) (by omega) (by omega) ⟨J,J,J,J,J,J,trivial⟩ (.cons' 0 J (Bi fun x _=>?_) .nil);unfold upd bgA;have h1:=J7 (CC hlt) ((x:Int)-1);by_cases c:x=(Ae ks i+1).toNat
  .rw[if_pos c,if_neg (by omega),if_neg (by omega),h1,if_pos (by omega),c];rfl
  rw[if_neg c];by_cases c2:x=0
  .rw[if_pos c2,if_pos c2]
  rw[if_neg c2,if_neg c2,h1,if_neg (by omega)];rfl
 have hie:i=ks.length:=by simp at c11;omega
 subst hie;have hk0:∀x,x∈ks->0<=x:=fun x hx=>(hk x hx).1;refine AN<|Ag<|Ag<|Aq<|Aa<|Ai<|Zs<|Zz [2]<|Zx<|As ?_;refine AS (ι:=Nat) (fun j=>j<=mo)
  (fun j=>[(0,.slice A ks.length cap),(6,.slice (some ⟨g28,0,none⟩) (mo+2) (mo+2)),(43,.int .i64 (mo:Nat)),(44,.int .i64 (j:Nat))])
  (fun j=>[AC g28 3 (AA (BA (mo+2) (ZU ks j))).toArray]) (fun j=>mo-j) 0 (A1E _) ⟨J,J,J,J,trivial⟩ (.cons' 0 J (Bi fun x _=>by
   unfold bgA ZU;rw[A1T];by_cases c:x=0
   .rw[if_pos c,if_pos (by omega),c,show((0:Nat):Int)=0 from rfl,ZD hk0];rfl
   rw[if_neg c,if_neg (by omega)]) .nil) ?_;intro j hj;refine Zs<|Zc<|Zx<|Ai ?_;refine Zd ?_ ?_<;>intro c16
 .have hlt:j<mo:=by simpa using c16
  have hb1:ZU ks j (j+1)=(Qt ks j:Nat):=by unfold ZU;rw[if_neg (by omega)];congr 2;omega
  have hb2:ZU ks j j=(Vu ks j:Nat):=by unfold ZU;rw[if_pos (by omega)]
  have l1:=ZK ks j;have l2:=ZG ks j;refine Ao<|Aa<|Ai<|As<|Zs<|Zz [2]<|Zx ?_;refine Fv 300100010000 12 ?_;refine Yz [3] ?_;refine Yo J (B4 (ad':=⟨g28,j+1,none⟩) J J J A1x Bw (by omega) (by omega) (by rw[AX];congr 1)) ?_;refine Yg ?_ (hh:=by exact(AK (BB (by omega))));refine Yz [2] ?_;refine Yo J (B4 (ad':=⟨g28,j,none⟩) J J J A1x Bw (by omega) (by omega) (by rw[AX];rfl)) ?_;refine Yg ?_ (hh:=by exact(AK (BB (by omega))));refine Yz [1] ?_;refine Yo J (B4 (ad':=⟨g28,j+1,none⟩) J J J A1x Bw (by omega) (by omega) (by rw[AX];congr 1)) ?_;refine AO J J J J (AP (cs':=(AA (BA (mo+2) (upd (ZU ks j) (j+1) (ZU ks j (j+1)+ZU ks j j)))).toArray) J J J Bw J (by simp;omega) BU) (fun w hw=>hw.pick (.nil)) ?_;refine AF J ?_;simp only[zq,zr];refine An<|Aa<|Ak<|Zz [2]<|Az ?_;refine AB (j+1) (by omega) (by omega) ⟨J,J,J,J,trivial⟩ (.cons' 0 J (Bi fun x _=>?_) .nil);rw[hb1,hb2];unfold upd ZU;by_cases c:x=j+1
  .rw[if_pos c,if_pos (by omega),c,show((j+1:Nat):Int)=(j:Int)+1 from rfl,M1];omega
  rw[if_neg c];by_cases c2:x<=j
  .rw[if_pos c2,if_pos (by omega)]
  rw[if_neg c2,if_neg (by omega)]
 have hje:j=mo:=by simp at c16;omega
 subst hje;refine AN<|Ag<|Ag<|Aq<|Aa<|Zs<|Zz [2] ?_;refine Zw (B6 (k:=ks.length) J J J A1x Bw Fz C6 J (by omega) (by omega) (BS _)) fun g61=>?_;refine Za<|Zx<|Ai<|Zs ?_;refine Zz [3]<|Zx<|As ?_;refine AS (ι:=Nat) (fun i=>i<=ks.length)
  (fun i=>[(6,.slice (some ⟨g28,0,none⟩) (j+2) (j+2)),(10,.slice (some ⟨g61,0,none⟩) ks.length ks.length),(62,.slice A ks.length cap),(63,.int .i64 (ks.length:Nat)),(64,.int .i64 (i:Nat))])
  (fun i=>[AC g61 3 (AA (BA ks.length fun p=>if p<i then(KT ks p:Nat) else 0)).toArray,AC g28 3 (AA (BA (j+2) (bgC ks j i))).toArray]) (fun i=>ks.length-i) 0 (A1E _) ⟨J,J,J,J,J,trivial⟩
  (.cons' 0 J (Bi fun x _=>by simp) (.cons' 0 J (Bi fun x _=>by unfold ZU bgC Qt;simp) .nil)) ?_;intro i hi;refine Zs<|Zc<|Zx<|Ai ?_;refine Zd ?_ ?_<;>intro c22
 .have hlt:i<ks.length:=by simpa using c22
  obtain⟨ad,rfl,hc⟩:=hr.int (CC hlt);obtain⟨k0,k1⟩:=hk _ (A1h (CC hlt));have k2:=hmx2 _ (A1h (CC hlt));have hcv:bgC ks j i (Ae ks i).toNat=(KT ks i:Nat):=by
   unfold bgC KT;rw[if_pos (by omega),show(((Ae ks i).toNat:Nat):Int)=Ae ks i by omega]
  have hrl:=To hlt;refine Ao<|Aa<|Ai<|As<|Zs<|Zm ?_;refine Zi A1x Bw ?_;refine Zu (AG J J CA (A7 hc)) ?_;refine Zz [2]<|Zx<|Zs ?_;refine Zz [4] ?_;refine Zj ⟨g28,(Ae ks i).toNat,none⟩ ?_;refine Zu (AG J J CA (AK (BB (by omega)))) ?_;refine Zo (B4 (ad':=⟨g61,i,none⟩) J J J A1x Bw (by omega) (by omega) (by rw[AX];rfl)) ?_;refine Zy (AP (cs':=(AA (BA ks.length (upd (fun p=>if p<i then(KT ks p:Nat) else 0) i (bgC ks j i (Ae ks i).toNat)))).toArray) J J J Bw J (by simp;omega) BU)<|Zx<|Ak ?_;refine Zz [2] ?_;refine Zj ⟨g28,(Ae ks i).toNat,none⟩ ?_;refine Zu (AG J J CA (AK (BB (by omega)))) ?_;refine Zp ?_;refine Zj ⟨g28,(Ae ks i).toNat,none⟩ ?_;refine Zy (AP (cs':=(AA (BA (j+2) (upd (bgC ks j i) (Ae ks i).toNat (bgC ks j i (Ae ks i).toNat+1)))).toArray) J J J Bw J (by simp;omega) BU)<|Az<|An<|Aa<|Ak ?_;refine Zz [2]<|Az ?_;refine AB (i+1) (by omega) (by omega) ⟨J,J,J,J,J,trivial⟩ (.cons' 0 J (Bi fun x _=>?_) (.cons' 0 J (Bi fun x _=>?_) .nil))
  .rw[hcv];unfold upd;by_cases c:x=i
   .rw[if_pos c,if_pos (by omega),c]
   rw[if_neg c];dsimp only;by_cases c2:x<i
   .rw[if_pos c2,if_pos (by omega)]
   rw[if_neg c2,if_neg (by omega)]
  unfold upd bgC;have h1:=J7 (CC hlt) (x:Int);by_cases c:x=(Ae ks i).toNat
  .rw[if_pos c,if_pos (by omega),if_pos (by omega),h1,if_pos (by omega),c];omega
  rw[if_neg c];by_cases c2:x<=j
  .rw[if_pos c2,if_pos c2,h1,if_neg (by omega)];rfl
  rw[if_neg c2,if_neg c2]
 refine AN<|Ag<|Ag<|Aq<|Aa<|Zs<|Zz [2]<|Zx<|At ?_;refine Dl.own (M:=[Bf (.slice (some ⟨g61,0,none⟩) ks.length ks.length) 3 1 (AA (BA ks.length fun p=>(KT ks p:Nat)))]) (fun w hw=>?_) ?_
 .have hie:i=ks.length:=by simp at c22;omega
  subst hie;have k3:AR _ _ w [Bf _ _ _ _]:=Ca (len:=ks.length) (cap:=ks.length) (m:=1) (vs:=AA (BA ks.length fun p=>if p<ks.length then(KT ks p:Nat) else 0)) (by simp) (by decide) (by omega) (by omega) (by simp) (by rw[A2Z (by simp)]) (hw.pick (.cons 0 rfl .nil));have e:(BA ks.length fun p=>if p<ks.length then((KT ks p:Nat):Int) else 0)=BA ks.length fun p=>(KT ks p:Nat):=DE fun x hx=>by rw[if_pos hx]
  rw[e] at k3;exact k3
 refine AZ (E':=[(2,_)]) ⟨J,trivial⟩ (Ay _) ?_;refine Zh ?_;exact⟨_,_,J,fun _=>⟨_,J⟩,J⟩
end
abbrev A0c(gl:Nat)(u0 u1 u2 u3:Value)(nest:List Int)(w:World):Prop:=w.heap[gl]? =some (.cells #[u0,u1,u2,u3] 62 (0,0))/\FD w u2 nest
abbrev keyV(gl:Nat):Value:=.func (.func 54) #[] #[Pv gl]
theorem YS{l:List Int}{f:Int->Int}{i:Nat}{x:Int}(h:l[i]? =some x):Ae (l.map f) i=f x:=by
 rw[EF,A1U,h];rfl
structure SoI where
 i:Nat
 v:Value
structure SoJ where
 i:Nat
 os:List Int
section
variable{w:World}{gl:Nat}{u0 u1 u2 u3 v:Value}{nest its:List Int}
theorem nest_calls{h:Int}(hN:A0c gl u0 u1 u2 u3 nest w)(h0:0<=h)(h1:h / 2<nest.length):Calls A1c 54 #[Iv h,Pv gl] w (Ret w [] fun r M=>M=[]/\r= Iv (Ae nest (h / 2))):=by
 obtain⟨hg,hs⟩:=hN;obtain⟨ad,cap,rfl,hc⟩:=hs.cell (i:=h / 2) (by omega) h1;obtain⟨A3,c3,hv3',_,hlc3,hcm3,hl3⟩:=hs;cases hv3';refine cO Tryz.func54 Tryz.ntmps54<|Zs ?_;refine Za<|Zx<|Zs ?_;refine Zz [1] ?_;refine Zu (AG J J D8 (Bh hg J)) ?_;refine Zm ?_;refine Zo (Gi J J J (by omega) (by omega)) ?_;refine Zj (ad.add (h / 2).toNat) ?_;refine Zu (AG J J CA (A7 hc)) ?_;refine Za<|Zx<|At ?_;refine Zh ?_;exact⟨J,J⟩
theorem SA{most:Int}(hD:Dk w [] fun w=>FD w v its/\A0c gl u0 u1 u2 u3 nest w)(hm0:0<=most)(hm:most<=4194304)(hl:its.length<=4194304)(hh:∀h,h∈its->0<=h/\h / 2<nest.length/\0<=Ae nest (h / 2)/\Ae nest (h / 2)<=most)(hn:its.Nodup):
  Calls A1c 53 #[v,keyV gl,.int .i64 most] w (Ret w [] fun r M=>∃g os,r= .tuple #[.slice (some ⟨g,0,none⟩) its.length its.length,.int .i64 0]/\M=[Bf (.slice (some ⟨g,0,none⟩) its.length its.length) 3 1 (AA os)]/\os.length=its.length/\os.Nodup/\(∀x,x∈os↔x∈its)/\os.Pairwise fun x y=>Ae nest (x / 2)<=Ae nest (y / 2)):=by
 obtain⟨A,cap,rfl,hr,hlc,hcm,hlm⟩:=hD.here.1;obtain⟨ks,hks⟩:∃ks,ks=its.map fun h=>Ae nest (h / 2):=⟨_,rfl⟩;have hkl:ks.length=its.length:=by rw[hks,A1S]
 have hkr:∀x,x∈ks->0<=x/\x<=most:=fun x hx=>by
  rw[hks] at hx;obtain⟨h,h1,rfl⟩:=A1G.1 hx;exact(hh h h1).2.2
 refine cO Tryz.func53 Tryz.ntmps53<|Zs ?_;refine Zz [2]<|Zx<|Ai<|Zs ?_;refine Zz [3] ?_;refine AM 17 J (fun k1_2=>?_) (fun k1_2=>?_)
 .exfalso;simp at k1_2;omega
 refine Zz [4] ?_;refine AM 21 J (fun k1_6=>?_) (fun k1_6=>?_)
 .exfalso;simp at k1_6;omega
 refine Zm ?_;refine Zo (Tz (p:=[]) (q:=[]) J J J Tryz.underlying108) ?_;refine Zg<|Zx ?_;refine Zd ?_ ?_<;>intro c1
 .exact absurd c1 (by decide)
 refine Ao<|Aa<|Zs<|Zz [2] ?_;refine Zw (PD (l:=0) (k:=its.length) J J J A1x Bw Fz C6 J (by omega) (by omega) (by omega) (by omega) (F3 _ J _)) fun g27=>?_;refine Za<|Zx<|Ai<|Zs ?_;refine Zz [3]<|Zx<|As ?_;refine DC.own (fun w hw=>Ca (vs:=[]) (m:=1) (len:=0) (cap:=its.length) J (by decide) (by omega) (by omega) (by simp) J hw) ?_;refine AS (ι:=SoI) (fun j=>j.i<=its.length) (fun j=>[(0,.slice A its.length cap),(1,keyV gl),(2,.int .i64 most),(8,j.v),(28,.slice A its.length cap),(29,.int .i64 (its.length:Nat)),(30,.int .i64 (j.i:Nat))])
  (fun j=>[Bf j.v 3 1 (AA (ks.take j.i))]) (fun j=>its.length-j.i) ⟨0,_⟩ (A1E _) ⟨J,J,J,J,J,J,J,trivial⟩ (.cons 0 J .nil) ?_;rintro⟨i,vk⟩ hi;dsimp only at hi ⊢;refine Zs<|Zc<|Zx<|Ai ?_;refine Zd ?_ ?_<;>intro c5
 .have hlt:i<its.length:=by simpa using c5
  obtain⟨h,hx⟩:∃h,its[i]? =some h:=⟨_,A1d hlt⟩;obtain⟨ad,rfl,hc⟩:=hr.int hx;obtain⟨h0,h1,h2,h3⟩:=hh h (A1h hx);have hkx:ks[i]? =some (Ae nest (h / 2)):=by rw[hks,A1U,hx];rfl
  refine Ao<|Aa<|Ai<|As<|Zs<|Zi A1x Bw ?_;refine Zu (AG J J CA (A7 hc)) ?_;refine Za<|Zx<|Zs ?_;refine Zz [2] ?_;refine AL J J (AH en54 J J J (fun w' hw=>nest_calls (hD.own hw).2 h0 h1)) ?_;rintro _ rfl;refine Za<|Zx<|Ai<|Zs ?_;refine Zz [3] ?_;refine AM 39 J (fun k8_2=>?_) (fun k8_2=>?_)
  .exfalso;simp at k8_2;omega
  refine Zz [4]<|Zx ?_;refine Zd ?_ ?_<;>intro c8
  .exfalso;simp at c8;omega
  refine Ao<|Aa<|Ak<|Zz [2] ?_;refine ZL #[_] A1x Bw C6 fun g46=>?_;refine AU J J (Bt J J J A1x Bw Fz C6 J (by decide) (by decide) (fun w hw=>hw.pick (.cons 1 J .nil)) (.inl ⟨_,_,J,AW J⟩) J (CL [Ae nest (h / 2)] []) (by simp;omega)) ?_;rintro v47 _ rfl;refine Za<|Az<|An<|Aa<|Ak ?_;refine Zz [2]<|Az ?_;exact AB ⟨i+1,v47⟩ (by dsimp only;omega) (by dsimp only;omega) ⟨J,J,J,J,J,J,J,trivial⟩ (.cons' 0 J (by dsimp only;rw[A1W,hkx];simp[AA]) .nil)
 have hie:i=its.length:=by simp at c5;omega
 subst hie;rw[A2Z (by omega)];refine AN<|Ag<|Ag<|Aq<|Aa<|Zs<|Zz [2] ?_;refine Zw (B6 (k:=its.length) J J J A1x Bw Fz C6 J (by omega) (by omega) (BS _)) fun g51=>?_;refine Za<|Zx<|Ai<|Zs ?_;refine Zm ?_;refine Bk J J (AH en97 J J J (fun w' hw=>Q7 (ks:=ks) (C7 hw 1 J (by omega)) (fun x hx=>by have:=hkr x hx;omega) (by omega))) ?_;rintro _ _ ⟨Ar,cr,rfl,hAr,rfl⟩;rw[hkl];simp only[zs];refine Zz [2]<|Zx<|As ?_;refine AS (ι:=SoJ) (fun j=>j.i<=its.length/\j.os.length=its.length/\∀p,p<j.i->j.os[KT ks p]? =its[p]?) (fun j=>[(0,.slice A its.length cap),(12,.slice (some ⟨g51,0,none⟩) its.length its.length),(53,.slice Ar its.length cr),(54,.int .i64 (its.length:Nat)),(55,.int .i64 (j.i:Nat))])
  (fun j=>[Bf (.slice Ar its.length cr) 3 1 (AA (BA its.length fun i=>(KT ks i:Nat))),AC g51 3 (AA j.os).toArray]) (fun j=>its.length-j.i) ⟨0,_⟩ ⟨A1E _,by simp,fun p hp=>absurd hp (A1w _)⟩ ⟨J,J,J,J,J,trivial⟩ (.cons 0 J (.cons 0 J .nil)) ?_;rintro⟨i,os⟩ ⟨hi,hol,hos⟩;dsimp only at hi hol hos ⊢;refine Zs<|Zc<|Zx<|Ai ?_;refine Zd ?_ ?_<;>intro c14
 .have hlt:i<its.length:=by simpa using c14
  obtain⟨h,hx⟩:∃h,its[i]? =some h:=⟨_,A1d hlt⟩;obtain⟨ad,rfl,hc⟩:=hr.int hx;obtain⟨adr,rfl⟩:=hAr (by omega);have hrk:=To (ks:=ks) (i:=i) (by omega);refine Ao<|Aa<|Ai<|As<|Zs<|Zm ?_;refine Zj (adr.add i) ?_;refine Zu (AG J J CA (Cv (i:=0) J (C3 _ hlt) (by simp;omega))) ?_;refine Zz [2]<|Zx<|Ak ?_;refine Zz [4] ?_;refine Zj (ad.add i) ?_;refine Zu (AG J J CA (A7 hc)) ?_;refine Zo (B4 (ad':=⟨g51,KT ks i,none⟩) J J J A1x Bw (by omega) (by omega) (by rw[AX];rfl)) ?_;refine Zy (AP (cs':=(AA (os.set (KT ks i) h)).toArray) J J J Bw J (by simp;omega) BP)<|Az<|An<|Aa<|Ak ?_;refine Zz [2]<|Az ?_;refine AB ⟨i+1,os.set (KT ks i) h⟩ (by dsimp only;omega) ⟨by dsimp only;omega,by simpa using hol,fun p hp=>?_⟩ ⟨J,J,J,J,J,trivial⟩ (Ay _);dsimp only at hp ⊢;by_cases c:p=i
  .subst c;rw[A2A (by omega),hx]
  rw[A2E (fun e=>c ((Q4 ks).inj _ _ (by omega) (by omega) e.symm))];exact hos p (by omega)
 refine AN<|Ag<|Ag<|Aq<|Aa<|Zs<|Zz [3]<|Zx<|At ?_;refine Dl.own (M:=[Bf (.slice (some ⟨g51,0,none⟩) its.length its.length) 3 1 (AA os)]) (fun w hw=>Ca (by simp[hol]) (by decide) (by omega) (by omega) (by simp[hol]) (by rw[A2Z (by simp[hol])]) (hw.pick (.cons 1 J .nil))) ?_;refine AZ (E':=[(6,_),(7,_)]) ⟨J,J,trivial⟩ (Ay _) ?_;refine Bq (.inl J) J J J ?_;have hie:i=its.length:=by simp at c14;omega
 obtain⟨q1,q2,q3⟩:=Q8 (ks:=ks) (its:=its) (os:=os) (kf:=fun h=>Ae nest (h / 2)) hkl.symm (by omega) (fun i x hx=>by rw[hks];exact YS hx) (fun p hp=>hos p (by omega)) hn;exact⟨_,os,J,J,hol,q1,q2,q3⟩
end
end Go.Fl
namespace Go.Fl
open Go Go.Proofs Go.RowKit Go.Lib Go.Sort Go.Shelf
section
variable{w:World}{v:Value}{xs:List Int}
theorem QP(hO:AR w (AY [Bf v 3 1 (AA xs)]) w [Bf v 3 1 (AA xs)])(hl:xs.length<=1000000000):
  Calls A1c 95 #[v] w (Ret w (AY [Bf v 3 1 (AA xs)]) fun r M=>r= .tuple #[]/\∃ys,M=[Bf v 3 1 (AA ys)]/\ys.Perm xs):=by
 rcases DA hO with⟨rfl,h,_⟩|⟨g,len,cap,sp,rfl,h1,h2,h3,h4,hb⟩
 .obtain rfl:xs=[]:=by cases xs;rfl;simp[AA] at h
  refine(AnyM.slices_Sort_int_none Nb none 0 w).mono ?_;rintro e w' ⟨rfl,rfl⟩;exact⟨_,_,J,⟨J,[],J,.refl _⟩,hO⟩
 simp at h1;subst h1;have hg:=hb.holds _ (A1m ..);have hlt:g<w.heap.size:=(A1t.1 hg).1;refine(AnyM.slices_Sort_int Nb g 0 cap xs w (fun j hj=>?_) hlt (by omega)).mono ?_
 .have hj':j<xs.length:=by simpa using hj
  constructor
  .rw[cell_of_row w g _ _ _ (0,0) hg];rw[A3u,A2d,A1o (by simpa using hj')];simp[AA,hj']
  have hg':w.heap[g]? =some (.cells (AA xs++sp).toArray 3 (0,0)):=hg;simp[World.frozen?,hg']
 rintro e w' ⟨rfl,k,os,rfl⟩;obtain⟨ys,hys⟩:∃ys,ys=xs.mergeSort fun x y=>decide (x<=y):=⟨_,rfl⟩;have hp:ys.Perm xs:=by rw[hys];exact List.mergeSort_perm _ _
 have hpl:=hp.length_eq;refine⟨_,_,J,⟨J,ys,J,hp⟩,?_⟩;rw[<-hys];have hm:=UX hg (Sort.putCells (Value.int .i64) 0 ys.toArray) k;rw[Rb hpl] at hm;have hgr:=AR.frame (Lc:=[]) (F:=[_]) hm (Mq _ 0 os) (fun k hk=>by simp at hk);refine Ca (by simp[hpl]) (by decide) h2 h3 (by simp[hpl] at h4 ⊢;omega) ?_ hgr;simp[<-hpl]
abbrev A0w(gb:Nat):Value:=.func (.func 96) #[] #[Pv gb]
theorem OX(hv:FD w v xs):Calls A1c 52 #[v] w (Ret w [] fun r L=>∃gb,r=A0w gb/\L=[AC gb 37 #[v]]):=by
 obtain⟨A,cap,rfl,_⟩:=hv;refine cO Tryz.func52 Tryz.ntmps52<|Zs ?_;refine ZB fun g1=>?_;refine Za<|Zx<|Zs ?_;refine Zo (Fu J J J) ?_;refine Za<|Zx<|At ?_;refine Zh ?_;exact⟨g1,J,J⟩
def Na(gb:Nat)(v:Value)(xs:List Int)(w:World):Prop:=w.cell? ⟨gb,0,none⟩=some v/\FD w v xs
theorem QD(gb:Nat)(v:Value)(xs:List Int):Iter A1c 96 #[Pv gb] (AA xs) (Na gb v xs):=by
 intro l w0 K ι Inv Ls κ Inx Lx hR hY j0 w hj0 hO;obtain⟨A,cap,rfl,hr,hlc,hcm,hl⟩:=(hR 0 j0 w hj0 hO).2;refine OG (args:=[_,_]) (L:=Ls j0) Tryz.func96 J Tryz.ntmps96 J hO<|Zs ?_;refine Zu (AG J J D8 (fun w hw=>(hR 0 j0 w hj0 hw).1)) ?_;refine Zz [2]<|Zx<|As ?_;refine AS (ι:=Nat×ι) (fun q=>q.1<=xs.length/\Inv q.1 q.2) (fun q=>[(0,.func (.yield l) #[] #[]),(5,.slice A xs.length cap),(6,Iv (xs.length:Nat)),(7,Iv (q.1:Nat))]) (fun q=>Ls q.2) (fun q=>xs.length-q.1) (0,j0) ⟨A1E _,hj0⟩ ⟨J,J,J,J,trivial⟩ (Ay _) ?_;rintro⟨k,j⟩ ⟨hk,hj⟩;dsimp only at hk hj ⊢;refine Zs<|Zc<|Zx<|Ai ?_;refine Zd ?_ ?_<;>intro c1
 .have hlt:k<xs.length:=by simpa using c1
  obtain⟨x,hx⟩:∃x,xs[k]? =some x:=⟨_,A1d hlt⟩;obtain⟨ad,rfl,_⟩:=hr.int hx;refine Ao<|Aa<|Ai<|As<|Zs ?_;refine Zj (ad.add k) ?_;refine Zu (AG J J CA (fun w' hw'=>by
   obtain⟨A',c',e,hr',_⟩:=(hR k j w' hj hw').2;cases e;obtain⟨ad',e',hc⟩:=hr'.int hx;cases e';exact hc)) ?_;refine Za<|Zx<|Ai ?_;refine DC.regionR ?_;refine Ii.pur J J J (H2 J J) ?_;refine Ii.pur J J J (H2 J J) ?_;refine SL (Inv:=fun j'=>Inv (k+1) j') (Ls:=Ls) (Inx:=Inx) (Lx:=Lx) J J J J J (fun w hw=>hY k j w _ (by simp[AA,hx]) hj hw) (fun s hs'=>?_);refine Ii.pur J J J (Yn J J) ?_;refine Ii.nil<|Aa ?_;refine Zd ?_ ?_<;>intro c3
  .cases s with
   | inl j'=>simp at c3
   | inr j'=>
   refine At<|Am<|Ad<|Ad<|Am ?_;exact IG (.inl J) J fun w hw=>⟨⟨_,J⟩,.inr ⟨j',hs',hw⟩⟩
  cases s with
  | inr j'=>simp at c3
  | inl j'=>
  refine Ao<|An<|Aa<|Ak<|Zz [2]<|Az ?_;refine AB (k+1,j') (by dsimp only;omega) ⟨by dsimp only;omega,hs'⟩ ⟨J,J,J,J,trivial⟩ (Ay _)
 refine AN<|Ag<|Ag<|Aq ?_;refine IG (.inr J) J fun w hw=>⟨⟨_,J⟩,.inl ⟨j,?_,hw⟩⟩;have hke:k=xs.length:=by simp at c1;omega
 have he:(AA xs).length=k:=by rw[hke];simp[AA]
 rw[he];exact hj
abbrev bwdV(gb:Nat):Value:=.func (.func 91) #[] #[Pv gb]
theorem M4(hv:FD w v xs):Calls A1c 49 #[v] w (Ret w [] fun r L=>∃gb,r=bwdV gb/\L=[AC gb 37 #[v]]):=by
 obtain⟨A,cap,rfl,_⟩:=hv;refine cO Tryz.func49 Tryz.ntmps49<|Zs ?_;refine ZB fun g1=>?_;refine Za<|Zx<|Zs ?_;refine Zo (Fu J J J) ?_;refine Za<|Zx<|At ?_;refine Zh ?_;exact⟨g1,J,J⟩
def bwd(xs:List Int):List (Value×Value):=(List.range xs.length).map fun j=>(Iv ((xs.length-1-j:Nat):Int),Iv (Ae xs ((xs.length-1-j:Nat):Int)))
theorem Jh(xs:List Int):(bwd xs).length=xs.length:=by simp[bwd]
theorem ZO{xs:List Int}{j:Nat}(h:j<xs.length):(bwd xs)[j]? =some (Iv ((xs.length-1-j:Nat):Int),Iv (Ae xs ((xs.length-1-j:Nat):Int))):=by simp[bwd,h]
theorem NG(gb:Nat)(v:Value)(xs:List Int):Iter2 A1c 91 #[Pv gb] (bwd xs) (Na gb v xs):=by
 intro l w0 K ι Inv Ls κ Inx Lx hR hY j0 w hj0 hO;obtain⟨A,cap,rfl,hr,hlc,hcm,hl⟩:=(hR 0 j0 w hj0 hO).2;refine OG (args:=[_,_]) (L:=Ls j0) Tryz.func91 J Tryz.ntmps91 J hO<|Zs ?_;refine Zu (AG J J D8 (fun w hw=>(hR 0 j0 w hj0 hw).1)) ?_;refine Zz [3]<|Zx<|As ?_;refine AS (ι:=Nat×Nat×ι) (fun q=>q.1+q.2.1=xs.length/\Inv q.1 q.2.2) (fun q=>[(0,.func (.yield l) #[] #[]),(1,Pv gb),(3,Iv ((q.2.1:Nat)-1))]) (fun q=>Ls q.2.2) (fun q=>q.2.1) (0,xs.length,j0) ⟨by simp,hj0⟩ ⟨J,J,J,trivial⟩ (Ay _) ?_;rintro⟨k,q,j⟩ ⟨hk,hj⟩;dsimp only at hk hj ⊢;refine Ai<|Zs<|Zz [2]<|Zx ?_;refine Zd ?_ ?_<;>intro c1
 .obtain⟨q,rfl⟩:∃q',q=q'+1:=⟨q-1,by simp at c1;omega⟩;have hlt:k<xs.length:=by omega
  have hx:=CC (ks:=xs) (i:=q) (by omega);obtain⟨ad,rfl,_⟩:=hr.int hx;have hq:xs.length-1-k=q:=by omega
  rw[show(((q+1:Nat):Int)-1)=(q:Int) by omega];refine Ao<|Aa<|Ai<|As<|Ai ?_;refine DC.regionR ?_;refine Ii.pur J J J (H2 J J) ?_;refine Ii.pur J J J (H2 J J) ?_;refine Ii.val J J J (AG J J D8 (fun w hw=>(hR k j w hj hw).1)) ?_;refine Ii.pur J J J (H2 J J) ?_;refine Ii.pur J J J (B4 (ad':=ad.add q) J J J A1x Bw (by omega) (by omega) J) ?_;refine Ii.val J J J (AG J J CA (fun w' hw'=>by
   obtain⟨A',c',e,hr',_⟩:=(hR k j w' hj hw').2;cases e;obtain⟨ad',e',hc⟩:=hr'.int hx;cases e';exact hc)) ?_;refine Qg (Inv:=fun j'=>Inv (k+1) j') (Ls:=Ls) (Inx:=Inx) (Lx:=Lx) J J J J J J (fun w hw=>hY k j w (Iv (q:Nat),Iv (Ae xs q)) (by rw[ZO hlt,hq]) hj hw) (fun s hs'=>?_);refine Ii.pur J J J (Yn J J) ?_;refine Ii.nil<|Aa ?_;refine Zd ?_ ?_<;>intro c3
  .cases s with
   | inl j'=>simp at c3
   | inr j'=>
   refine At<|Am<|Ad<|Ad<|Am ?_;exact IG (.inl J) J fun w hw=>⟨⟨_,J⟩,.inr ⟨j',hs',hw⟩⟩
  cases s with
  | inr j'=>simp at c3
  | inl j'=>
  refine Ao<|An<|Aa<|Ak<|Zz [3]<|Az ?_;refine AB (k+1,q,j') (by dsimp only;omega) ⟨by dsimp only;omega,hs'⟩ ⟨J,J,J,trivial⟩ (Ay _)
 refine AN<|Ag<|Ag<|Aq ?_;refine IG (.inr J) J fun w hw=>⟨⟨_,J⟩,.inl ⟨j,?_,hw⟩⟩;have hke:q=0:=by simp at c1;omega
 rw[Jh,show xs.length=k by omega];exact hj
theorem Li{gb:Nat}(hD:Dk w [] (Na gb v xs))(hl:xs.length<=1000000000):Calls A1c 125 #[Nv,A0w gb] w (Ret w [] fun r M=>M=[Bf r 3 1 (AA xs)]):=by
 refine OH (args:=[_,_]) (L:=[]) Tryz.func125 J Tryz.ntmps125 J (B8 w [])<|Zs ?_;refine ZB fun g2=>?_;refine Za<|Zx<|Ai<|Zs ?_;refine Zm<|Zx<|As ?_;refine DC.own (fun w hw=>Ck (t:=3) (m:=1) hw) ?_;refine DC.range (ι:=Nat×Value) (κ:=Unit) (fun k j=>j.1=k/\k<=xs.length) (fun j=>[Bf j.2 3 1 (AA (xs.take j.1)),AC g2 37 #[j.2]])
  (fun c j=>False) (fun j=>[]) (0,Nv) J en96 (QD gb v xs) ?rdy1 ⟨J,A1E _⟩ (Ay _) ?body1 ?done1 ?stop1
 case rdy1=>
  exact fun k j w' hj hw=>hD.own hw
 case body1=>
  intro l r q D k j x hx hj;obtain⟨k,sv⟩:=j;obtain⟨rfl,hk⟩:=hj;dsimp only at hk ⊢;obtain⟨h,hh,rfl⟩:∃h,xs[k]? =some h/\x= Iv h:=by
   simp[AA] at hx;obtain⟨h,h1,h2⟩:=hx;exact⟨h,h1,h2.symm⟩
  have hkl:k<xs.length:=(A1e.1 hh).1;have htk:AA (xs.take k)++[Iv h]=AA (xs.take (k+1)):=by
   rw[A1W,hh];simp[AA]
  simp only[zs];refine DR.region J (fun _ _ h=>h) ?_;refine Za<|Az ?_;refine SS ?_;refine DR.block ?_;refine DR.region J (fun _ _ h=>h) ?_;refine Zz [0,1] ?_;refine ZL #[_] A1x Bw C6 fun g10=>?_;refine AU J J (Uz (Bt (F:=[AC g10 3 #[Iv h],HF l q,Jq D,AC g2 _ _]) (vs:=AA (xs.take k)) (k:=1) (news:=[Iv h]) J J J A1x Bw Fz C6 J (by decide) (by decide)
   (PK (Et (Bg (Bg (Bg (Bg .nil)))))) (.inl ⟨_,_,rfl,AW rfl⟩) rfl (by intro u hu;simp at hu;subst hu;rfl) (by rw[ints_length];simp;omega))) ?_;rintro _ _ ⟨⟨A11,l11,c11,rfl,hl11⟩,rfl⟩;rw[htk] at hl11 ⊢;refine Jj #[_]<|Az<|An ?_;exact Dl.round (k+1,.slice A11 l11 c11) ⟨J,by omega⟩ (CY (CY (Bg (BC .nil))))
 case done1=>
  rintro D ⟨k,sv⟩ ⟨h1,h2⟩;dsimp only at h1 h2 ⊢;have hk:xs.take k=xs:=by
   have:(AA xs).length=xs.length:=by simp[AA]
   exact A2Z (by omega)
  rw[hk];refine An<|Aa<|Zs<|Zz [0,1]<|Zx<|At ?_;refine OO (.inl J) ?_;refine Ni ?_;refine Nj ?_;refine AZ (E':=[(4,_)]) ⟨J,trivial⟩ (Bg .nil) ?_;refine A0f J J ?_
  rfl
 case stop1=>
  exact fun D c j h=>h.elim
theorem NF{gb:Nat}(hD:Dk w [] (Na gb v xs))(hl:xs.length<=1000000000):Calls A1c 94 #[A0w gb] w (Ret w [] fun r M=>M=[Bf r 3 1 (AA xs)]):=by
 refine cO Tryz.func94 Tryz.ntmps94<|Zs ?_;refine Za<|Zx<|Zs ?_;refine Zm ?_;refine Bk J J (AH en125 J J J (fun w' hw=>Li (hD.step hw (by simp)) hl)) ?_;rintro v4 _ rfl;refine Za<|Zx<|At ?_;refine Zh ?_
 rfl
theorem O6{gb:Nat}(hD:Dk w [] (Na gb v xs))(hl:xs.length<=1000000000):Calls A1c 51 #[A0w gb] w (Ret w [] fun r M=>∃ys,M=[Bf r 3 1 (AA ys)]/\ys.Perm xs):=by
 refine cO Tryz.func51 Tryz.ntmps51<|Zs ?_;refine Za<|Zx<|Zs ?_;refine Zm ?_;refine Bk J J (AH en94 J J J (fun w' hw=>NF (hD.step hw (by simp)) hl)) ?_;rintro v5 _ rfl;refine Za<|Zx<|Zs ?_;refine Zm ?_;refine AU J J (BT en95 J J J (Lc:=[Bf v5 3 1 (AA xs)]) (F:=[]) (.refl _) (fun _ h=>h) (fun w hw=>QP (hw.sub (A1J [Bf _ _ _ _] _)).self hl)) ?_;rintro _ _ ⟨_,⟨rfl,ys,rfl,hp⟩,rfl⟩;simp only[zs];refine Zx<|Zs<|Zz [2]<|Zx<|At ?_;refine Zh ?_;exact⟨ys,J,hp⟩
end
end Go.Fl
namespace Go.Fl
open Go Go.Proofs
structure LoD (va v0 v1 v2 v3:Value) (es:List Pr) (pa he od oi:List Int) (w:World):Prop where
 hE:DX w va es
 h0:FD w v0 pa
 h1:FD w v1 he
 h2:FD w v2 od
 h3:FD w v3 oi
structure LoI where
 i:Nat
 rs:RL
def oF(es:List Pr)(oi:List Int)(i:Nat)(x:Int):List Int:=(oi.take i).filter fun h=>decide (Aj es h=x)
theorem A0U{es:List Pr}{oi:List Int}{i:Nat}{h:Int}(hi:oi[i]? =some h)(x:Int):oF es oi (i+1) x=oF es oi i x++if Aj es h=x then[h] else[]:=by
 unfold oF;rw[A1W,hi];simp[A2U,A3P]
theorem Yw(es:List Pr)(oi:List Int)(i:Nat)(x:Int):(oF es oi i x).length<=oi.length:=by
 unfold oF;have:=A2J (fun h=>decide (Aj es h=x)) (oi.take i);simp at this ⊢;omega
theorem Jt{m i:Nat}{F:Nat->Int}:∀x,x<m->upd (fun e=>if e<i then F e else 0) i (F i) x=if x<i+1 then F x else 0:=fun x _=>by
 unfold upd;by_cases c:x=i
 .rw[if_pos c,if_pos (by omega),c]
 rw[if_neg c];dsimp only;by_cases c2:x<i
 .rw[if_pos c2,if_pos (by omega)]
 rw[if_neg c2,if_neg (by omega)]
theorem YC{n:Nat}{es:List Pr}{pa he oi:List Int}(hF:CD es (Ae pa) (Ae he) (Ae oi) n)(hl:oi.length=es.length){h x:Int}:h∈oF es oi es.length x↔DS es (Ae oi) h/\Aj es h=x:=by
 unfold oF;rw[A2Z (by omega),A1D];simp only[decide_eq_true_eq];constructor
 .rintro⟨hm,hx⟩;obtain⟨i,hi⟩:=A1j.1 hm;have hil:=(A1e.1 hi).1;have e:=CC hil;rw[hi] at e;have e:=Option.some.inj e;have ho:=hF.ori i (by omega) (by omega);rw[<-e] at ho;have e2:h / 2=(i:Int):=by omega
  exact⟨⟨⟨by omega,by omega⟩,by rw[e2,<-e]⟩,hx⟩
 rintro⟨⟨⟨h0,h1⟩,h2⟩,hx⟩;refine⟨?_,hx⟩;have e:=CC (ks:=oi) (i:=(h / 2).toNat) (by omega);rw[show(((h / 2).toNat:Nat):Int)=h / 2 by omega,h2] at e;exact A1h e
theorem QE(a b:List Int):IJ (a++b)=b.foldl CV (IJ a):=by unfold IJ;rw[List.foldl_append]
def Ed(es:List Pr)(pa he:List Int)(fs:Int->Int×Int)(h:Int):Int×Int:=
 if Ae pa (AD es h)=h then IJ [Ae he (Aj es h),min (fs (AD es h)).1 (Ae he (Aj es h)),min (fs (AD es h)).2 (Ae he (Aj es h))] else IJ [Ae he (Aj es h),Ae he (AD es h)]
theorem T7{p:Int->Bool}{h:Int}(hp:p h=true):List.filter p [h]=[h]:=by simp[hp]
theorem Y8{N:Int}{es:List Pr}{pa he oi:List Int}{fs:Int->Int×Int}{h:Int}(hF:CD es (Ae pa) (Ae he) (Ae oi) N)(hb:∀v,0<=v->v<N->Ae he v<mx)(hfs:∀v:Int,0<=v->v<N->SI (Bv es (Ae pa) (Ae he) (Ae oi) v) (fs v))(ho:DS es (Ae oi) h):
  OP es (Ae pa) (Ae he) (Ae oi) h (Ed es pa he fs h).1 (HJ (Ed es pa he fs h) (Ae he (Aj es h))):=by
 obtain⟨_,t0,t1⟩:=hF.rng ho.1;unfold Ed;by_cases c:Ae pa (AD es h)=h
 .rw[if_pos c];exact WN hF hb ⟨ho,c⟩ (hfs _ t0 t1)
 rw[if_neg c];exact WO hF hb ⟨ho,c⟩
theorem OA{N:Int}{es:List Pr}{pa he oi:Int->Int}{h a nest:Int}(hF:CD es pa he oi N){B:Int}(hb:∀v,0<=v->v<N->he v<B)(ho:DS es oi h)(hE:OP es pa he oi h a nest):0<=a/\a<B/\0<=nest/\nest<=2*a+1:=by
 obtain⟨e1,e2,e3,e4⟩:=hE;obtain⟨⟨u0,u1⟩,_⟩:=hF.rng ho.1;have ha:0<=a/\a<B:=by
  by_cases c:∃b,Rt es pa he oi h b
  .obtain⟨b,hb',e⟩:=e1 c;obtain⟨_,t0,t1⟩:=hF.rng hb'.1.1.1.1;rw[e];exact⟨hF.pos _ t0 t1,hb _ t0 t1⟩
  rw[e2 c];exact⟨hF.pos _ u0 u1,hb _ u0 u1⟩
 by_cases c:∃b,Rt es pa he oi h b/\a<he (AD es b)
 .have:=e3 c;omega
 have:=e4 c;omega
theorem R3{m:Nat}{f:Nat->Int}{x:Int}(h0:0<=x)(h1:x<m):Ae (BA m f) x=f x.toNat:=by
 unfold Ae;rw[C3 f (by omega)];rfl
structure EdI where
 i:Nat
structure TlJ where
 j:Nat
 p:Int×Int
section
variable{w:World}{n:Nat}{es:List Pr}{va v0 v1 v2 v3:Value}{pa he od oi:List Int}
set_option maxHeartbeats 4000000 in
theorem RG(hW:WkF n es pa he od oi)(hv:ES n es pa he od oi=true)(hD:Dk w [] (LoD va v0 v1 v2 v3 es pa he od oi)):
  Calls A1c 23 #[.agg #[Iv (n:Nat),va],.agg #[v0,v1,v2,v3]] w (Ret w [] fun r M=>∃ga gx gy gb lo rs,r= .tuple #[.agg #[Sv ga es.length,Sv gx es.length,Sv gy es.length,Sv gb n],Iv 0]/\M=AC ga 3 (AA lo).toArray::AC gb 37 (Ba rs).toArray::AT 3 rs/\lo.length=es.length/\rs.length=n/\(∀p,p∈rs->p.2.length<=es.length)/\
   B9 es (Ae pa) (Ae he) (Ae oi) (Ae lo) n (fun v=>((rs.map Prod.snd)[v.toNat]?).getD [])):=by
 have hF:=hW.frs;have hV:=hF.val;have hfew:=hV.few;have hN1:n<=1048576:=by have:=hV.hi;omega
 have hpal:=hW.pal;have hhel:=hW.hel;have hodl:=hW.odl;have hoil:=hW.oil;obtain⟨A,cap,rfl,hr,hlc,hcm,hlE⟩:=hD.here.hE;obtain⟨A0,e0,rfl,l0,m0,f0,x0⟩:=EW hD (fun _ h=>h.h0);obtain⟨A1,e1,rfl,l1,m1,f1,x1⟩:=EW hD (fun _ h=>h.h1);obtain⟨A2,e2,rfl,l2,m2,f2,x2⟩:=EW hD (fun _ h=>h.h2);obtain⟨A3,e3,rfl,l3,m3,f3,x3⟩:=EW hD (fun _ h=>h.h3);refine OH (args:=[_,_]) (L:=[]) Tryz.func23 J Tryz.ntmps23 J (B8 w [])<|Zs ?_;refine Zw (HE (cs:=#[Iv (n:Nat),.slice A es.length cap]) J J J) fun g2=>?_;refine Zw (HE (cs:=#[.slice A0 pa.length e0,.slice A1 he.length e1,.slice A2 od.length e2,.slice A3 oi.length e3]) J J J) fun g3=>?_;refine ZA ze62 fun g4=>?_;refine Za<|Zx<|Ai<|Zs ?_;refine CR [_,_] ?_;refine CR [_,_,_,_] ?_;refine AL J J (AH en47 J J J (fun w' hw=>Sa (hD.own hw).hE (hD.own hw).h0 (hD.own hw).h1 (hD.own hw).h2 (hD.own hw).h3 hV hv)) ?_;rintro _ rfl;refine Za<|Zx<|Zs ?_;refine Zz [2]<|Zx ?_;refine Zd ?_ ?_<;>intro c2
 .exact absurd c2 (by decide)
 refine Ao<|Aa<|Zs<|Zz [1,2]<|Zx<|Ai ?_;refine Fw 3022020 [0,2,1,3,4,5,6] [] PN ?_;refine Yz [2] ?_;refine A8 J J J J (B6 (k:=es.length) J J J A1x Bw Fz C6 J (by omega) (by omega) (BS _)) fun g43=>?_;refine A8 J J J J (B6 (k:=es.length) J J J A1x Bw Fz C6 J (by omega) (by omega) (BS _)) fun g45=>?_;refine A8 J J J J (DL J Gq J) fun g9=>?_;refine Yz [1] ?_;refine BF.sto (V:=[AC g9 37 #[Nv],AC g45 3 (AA (BA es.length fun x=>0)).toArray,AC g43 3 (AA (BA es.length fun x=>0)).toArray,AC g4 62 #[Nv,Nv,Nv,Nv],AC g3 58 #[.slice A0 pa.length e0,.slice A1 he.length e1,.slice A2 od.length e2,.slice A3 oi.length e3],AC g2 24 #[Iv (n:Nat),.slice A es.length cap]]) J J J J J (AP (cs':=#[_]) J J J ET J (A1f J) J) PN ?_;refine AF J ?_;simp only[zq,zr];refine Aa<|Zs<|Zz [1,0] ?_;refine Zw (B6 (k:=n) (cs:=(Ba (List.replicate n (Nv,[]))).toArray) J J J A1B ET Sx Gq J (by omega) (by omega) (by rw[F3 _ rfl];simp[Ba])) fun g48=>?_;refine ZA ze25 fun g10=>?_;refine Jj #[_]<|Zx ?_;refine DC.cut (ι:=RL) (fun rs=>rs.length=n/\∀(x:Nat) p,rs[x]? =some p->p.2=oF es oi es.length x) (fun _=>[(2,Pv g2),(3,Pv g3),(4,Pv g4),(7,Iv (es.length:Nat)),(8,Sv g43 es.length),(9,Pv g9),(10,Pv g10)])
  (fun rs=>[AC g48 37 (Ba rs).toArray,AC g43 3 (AA (BA es.length fun e=>Aj es (Ae oi e))).toArray,AC g45 3 (AA (BA es.length fun e=>AD es (Ae oi e))).toArray,AC g10 25 #[Sv g48 n],AC g9 37 #[Sv g45 es.length],AC g4 62 #[Nv,Nv,Nv,Nv],AC g3 58 #[.slice A0 pa.length e0,.slice A1 he.length e1,.slice A2 od.length e2,.slice A3 oi.length e3],AC g2 24 #[Iv (n:Nat),.slice A es.length cap]]++AT 3 rs) ?firstb0 ?restb0
 case firstb0=>
  refine Zs<|Zz [2]<|Zx<|As ?_;refine DC.own (fun w hw=>Mp (t:=3) n hw) ?_;refine AS (ι:=LoI) (fun j=>j.i<=es.length/\j.rs.length=n/\∀(x:Nat) p,j.rs[x]? =some p->p.2=oF es oi j.i x) (fun j=>[(2,Pv g2),(3,Pv g3),(4,Pv g4),(7,Iv (es.length:Nat)),(8,Sv g43 es.length),(9,Pv g9),(10,Pv g10),(49,Iv (es.length:Nat)),(50,Iv (j.i:Nat))])
   (fun j=>[AC g48 37 (Ba j.rs).toArray,AC g43 3 (AA (BA es.length fun e=>if e<j.i then Aj es (Ae oi e) else 0)).toArray,AC g45 3 (AA (BA es.length fun e=>if e<j.i then AD es (Ae oi e) else 0)).toArray,AC g10 25 #[Sv g48 n],AC g9 37 #[Sv g45 es.length],AC g4 62 #[Nv,Nv,Nv,Nv],AC g3 58 #[.slice A0 pa.length e0,.slice A1 he.length e1,.slice A2 od.length e2,.slice A3 oi.length e3],AC g2 24 #[Iv (n:Nat),.slice A es.length cap]]++AT 3 j.rs) (fun j=>es.length-j.i) ⟨0,List.replicate n (Nv,[])⟩
   ⟨A1E _,by simp,fun x p hp=>by simp[A2h] at hp;simp[<-hp.2,oF]⟩ ⟨rfl,rfl,rfl,rfl,rfl,rfl,rfl,rfl,rfl,trivial⟩ (BC (.cons' 3 rfl (Bi fun x _=>by simp) (.cons' 2 rfl (Bi fun x _=>by simp) (Bg (Bg (Ay _)))))) ?_;rintro⟨i,rs⟩ ⟨hi,hrl,hrs⟩;dsimp only at hi hrl hrs ⊢;simp only[zs];refine Zs<|Zc<|Zx<|Ai ?_;refine Zd ?_ ?_<;>intro c8
  .have hlt:i<es.length:=by simpa using c8
   have hoi:oi[i]? =some (Ae oi i):=CC (by omega);have hor:=hF.ori i (by omega) (by omega);have hvh:VH es (Ae oi i):=by rcases hor with e|e<;>exact⟨by omega,by omega⟩
   obtain⟨⟨u0,u1⟩,t0,t1⟩:=hF.rng hvh;obtain⟨pu,hpu⟩:∃p,rs[(Aj es (Ae oi i)).toNat]? =some p:=⟨_,A1d (by omega)⟩;have eu:=hrs _ pu hpu;have lu:=Yw es oi i ((Aj es (Ae oi i)).toNat:Nat);rw[<-eu] at lu;obtain⟨ad3,rfl,hx3⟩:=x3 i (by omega) (by omega);refine Ao<|Aa<|Ai<|As<|Zs<|Zz [2]<|Zx<|Ai ?_;refine II (cl:=[.q,.q,.q,.q,.v,.v,.q,.r,.q,.q,.q,.q,.g,.q,.g]) (A:=[0,0,0,0,0,0,0,112,240,496,496,1011,3059,8191,16383]) (order:=[0,1,2,3,4,5,6,7,8,9,10,11,12,13,14]) ([AC g9 37 #[Sv g45 es.length]]) mixed (by kernel_rfl) (PK (LQ .nil)) ?_;refine Yz [2] ?_;refine BG J J J (AG J J D8 (B0 J)) ?_;refine Ym ?_;refine Bp J J J J (A4 (vs:=[_,_]) J J IL G2 J (AW J)) ?_;refine Bp J J J J (A4 (vs:=[_,_,_,_]) J J ag58 XF J (AW J)) ?_;refine Ym ?_;refine BF.rel0 J J J J (AH en48 J J J (fun w' hw=>RN (hD.own hw).hE (hD.own hw).h3 (by omega) (by omega) hoil hor)) ?_;rintro _ rfl;refine Yz [3] ?_;refine Yi (ad':=⟨g43,i,none⟩) A1x Bw ?_ (he:=by rw[AX];rfl);refine AO J J J J (AP (cs':=(AA (BA es.length (upd (fun e=>if e<i then Aj es (Ae oi e) else 0) i (Aj es (Ae oi i))))).toArray) J J J Bw J (by simp;omega) BU) (PK (LQ .nil)) ?_;refine Yi (ad':=⟨g45,i,none⟩) A1x Bw ?_ (he:=by rw[AX];rfl);refine AO J J J J (AP (cs':=(AA (BA es.length (upd (fun e=>if e<i then AD es (Ae oi e) else 0) i (AD es (Ae oi i))))).toArray) J J J Bw J (by simp;omega) BU) (PK (LQ .nil)) ?_;refine AF J ?_;simp only[zq,zr];let ca:=AC g43 3 (AA (BA es.length fun e=>if e<i+1 then Aj es (Ae oi e) else 0)).toArray;let cb:=AC g3 58 #[.slice A0 pa.length e0,.slice A1 he.length e1,.slice A2 od.length e2,.slice (some ad3) oi.length e3];refine Dl.own (M:=[ca,AC g45 3 (AA (BA es.length fun e=>if e<i+1 then AD es (Ae oi e) else 0)).toArray,AC g48 37 (Ba rs).toArray,AC g10 25 #[Sv g48 n],AC g9 37 #[Sv g45 es.length],AC g4 62 #[Nv,Nv,Nv,Nv],cb,AC g2 24 #[Iv (n:Nat),.slice A es.length cap]]++AT 3 rs) (PK (.cons' 1 J (Bi Jt) (.cons' 1 J (Bi Jt) (Bg (Ay _))))) ?_;simp only[zs];refine Aa ?_;refine II (cl:=[.q,.q,.q,.q,.q,.v,.q,.q,.q,.v,.q,.v,.q,.v,.q,.q,.v,.n,.g,.q,.g]) (A:=[0,0,0,6,14,0,0,0,192,448,992,2016,0,4096,0,28672,61440,126976,262112,524287,1048575]) (order:=[0,1,2,3,4,5,6,7,8,9,10,11,12,13,14,15,16,17,18,19,20]) ([AC g10 25 #[Sv g48 n],ca]) mixed (by kernel_rfl) (PK (Et (Bg .nil))) ?_;refine BG J J J (AG J J Z0 (B0 J)) ?_;refine Yz [2] ?_;refine Yi (ad':=⟨g43,i,none⟩) A1x Bw ?_ (he:=by rw[AX];rfl);refine BG J J J (AG J J CA (AK (show _=some (Iv (Aj es (Ae oi i))) from by rw[BB hlt,if_pos (by omega)]))) ?_;refine Yz [0,2] ?_;refine Yi (ad':=⟨g43,i,none⟩) A1x Bw ?_ (he:=by rw[AX];rfl);refine Yg ?_ (hh:=by exact(AK (show _=some (Iv (Aj es (Ae oi i))) from by rw[BB hlt,if_pos (by omega)])));refine Yj ⟨g48,(Aj es (Ae oi i)).toNat,none⟩ ?_;refine Yh (AK (FM hpu)) ?_;refine Yz [1,1] ?_;refine Yj (ad3.add i) ?_;refine Yh (hx3 _) ?_;refine A8 J J J J (Eo (cs:=#[_]) J J A1x Bw C6 J (by decide) (by decide) J J) fun g83=>?_;refine C5 (V:=AC g83 3 #[Iv (Ae oi i)]::ca::AC g45 3 (AA (BA es.length fun e=>if e<i+1 then AD es (Ae oi e) else 0)).toArray::AC g48 37 (Ba rs).toArray::AC g10 25 #[Sv g48 n]::AC g9 37 #[Sv g45 es.length]::AC g4 62 #[Nv,Nv,Nv,Nv]::cb::AC g2 24 #[Iv (n:Nat),.slice A es.length cap]::AT 3 rs) J J J J J (SP.shape (Bt (F:=[AC g83 3 #[Iv (Ae oi i)],AC g43 3 (AA (BA es.length fun e=>if e<i+1 then Aj es (Ae oi e) else 0)).toArray,AC g45 3 (AA (BA es.length fun e=>if e<i+1 then AD es (Ae oi e) else 0)).toArray,AC g48 37 (Ba rs).toArray,AC g10 25 #[Sv g48 n],AC g9 37 #[Sv g45 es.length],AC g4 62 #[Nv,Nv,Nv,Nv],cb,AC g2 24 #[Iv (n:Nat),.slice A es.length cap]]++AT 3 (rs.eraseIdx (Aj es (Ae oi i)).toNat)) (vs:=AA pu.2) (k:=1) (news:=[Iv (Ae oi i)]) J J J A1x Bw Fz C6 J (by decide) (by decide)
    (fun w hw=>hw.perm (Iq hpu _).symm) (.inl ⟨_,_,rfl,AW rfl⟩) rfl (by intro u hu;simp at hu;subst hu;rfl) (by rw[ints_length];omega))) (fun v L' hC w hw=>by obtain⟨_,rfl⟩:=hC;exact hw.pick (Xn (CY .nil))) ?_;rintro _ _ ⟨⟨A84,l84,c84,rfl⟩,rfl⟩;simp only[zs];refine Yj ⟨g48,(Aj es (Ae oi i)).toNat,none⟩ ?_;refine AO J J J J (AP (cs':=(Ba (rs.set (Aj es (Ae oi i)).toNat (.slice A84 l84 c84,pu.2++[Ae oi i]))).toArray) J J J ET J (by simp;omega) (Ko rs _ (.slice A84 l84 c84,pu.2++[Ae oi i]))) (PK (Xn (CY .nil))) ?_;refine AF J ?_;simp only[zq,zr];refine Dl.own (M:=[AC g48 37 (Ba (rs.set (Aj es (Ae oi i)).toNat (.slice A84 l84 c84,pu.2++[Ae oi i]))).toArray,ca,AC g45 3 (AA (BA es.length fun e=>if e<i+1 then AD es (Ae oi e) else 0)).toArray,AC g10 25 #[Sv g48 n],AC g9 37 #[Sv g45 es.length],AC g4 62 #[Nv,Nv,Nv,Nv],cb,AC g2 24 #[Iv (n:Nat),.slice A es.length cap]]++AT 3 (rs.set (Aj es (Ae oi i)).toNat (.slice A84 l84 c84,pu.2++[Ae oi i]))) (fun w hw=>?_) ?_
   .refine(?_:AR _ _ w (Bf (.slice A84 l84 c84) 3 1 (AA (pu.2++[Ae oi i]))::([_,_,_,_,_,_,_,_]++AT 3 (rs.eraseIdx (Aj es (Ae oi i)).toNat)))).perm (Ma (.slice A84 l84 c84,pu.2++[Ae oi i]) (by omega) _).symm;have h4:=(hw.pick (BC (Ay _))).sub (A1k ..);exact h4.pick (.cons' 0 J (by rw[BW];rfl) (CY (Ay _)))
   refine An<|Aa<|Ak<|Zz [2]<|Az ?_;refine AB ⟨i+1,rs.set (Aj es (Ae oi i)).toNat (.slice A84 l84 c84,pu.2++[Ae oi i])⟩ (by dsimp only;omega) ⟨by dsimp only;omega,by simp[hrl],fun x p hp=>?_⟩ ⟨J,J,J,J,J,J,J,J,J,trivial⟩ (Ay _);dsimp only at hp ⊢;rw[A0U hoi];by_cases c:(Aj es (Ae oi i)).toNat=x
   .subst c;rw[A2A (by omega)] at hp;cases hp;rw[if_pos (by omega)];dsimp only;rw[eu]
   rw[A2E c] at hp;rw[if_neg (by omega),A1O];exact hrs x p hp
  refine AN<|Ag<|Ag<|Aq ?_;have hie:i=es.length:=by simp at c8;omega
  subst hie;refine Be rs ⟨hrl,hrs⟩ ⟨J,J,J,J,J,J,J,trivial⟩ (Bg (.cons' 0 J (Bi fun x hx=>by rw[if_pos hx]) (.cons' 0 J (Bi fun x hx=>by rw[if_pos hx]) (Ay _))))
 rintro rs ⟨hrl,hrs⟩;simp only[zs];refine Ai ?_;refine Fw 3522200200 [0,1,2,6,7,8,3,4,5,9] ([AC g2 24 #[Iv (n:Nat),.slice A es.length cap]]) (PK (Jp7 .nil)) ?_;refine Yz [1] ?_;refine BG J J J (AG J J CA (B0 J)) ?_;refine A8 J J J J (B6 (k:=n) J J J A1x Bw Fz C6 J (by omega) (by omega) (BS _)) fun g89=>?_;refine A8 J J J J (DL J Gq J) fun g12=>?_;refine A8 J J J J (DL J Gq J) fun g13=>?_;refine W8 (V:=AC g13 37 #[Nv]::AC g12 37 #[Nv]::AC g89 3 (AA (BA n fun x=>0)).toArray::AC g48 37 (Ba rs).toArray::AC g43 3 (AA (BA es.length fun e=>Aj es (Ae oi e))).toArray::AC g45 3 (AA (BA es.length fun e=>AD es (Ae oi e))).toArray::AC g10 25 #[Sv g48 n]::AC g9 37 #[Sv g45 es.length]::AC g4 62 #[Nv,Nv,Nv,Nv]::AC g3 58 #[.slice A0 pa.length e0,.slice A1 he.length e1,.slice A2 od.length e2,.slice A3 oi.length e3]::AC g2 24 #[Iv (n:Nat),.slice A es.length cap]::AT 3 rs) J J J J J (XT (cs':=#[_]) J J J ET J (A1f J) J) (PK (.cons 10 J .nil)) ?_;refine Yz [1] ?_;refine BG J J J (AG J J CA (B0 J)) ?_;refine A8 J J J J (B6 (k:=n) J J J A1x Bw Fz C6 J (by omega) (by omega) (BS _)) fun g92=>?_;refine BF.sto (V:=AC g92 3 (AA (BA n fun x=>0)).toArray::AC g13 37 #[Nv]::AC g12 37 #[Sv g89 n]::AC g89 3 (AA (BA n fun x=>0)).toArray::AC g48 37 (Ba rs).toArray::AC g43 3 (AA (BA es.length fun e=>Aj es (Ae oi e))).toArray::AC g45 3 (AA (BA es.length fun e=>AD es (Ae oi e))).toArray::AC g10 25 #[Sv g48 n]::AC g9 37 #[Sv g45 es.length]::AC g4 62 #[Nv,Nv,Nv,Nv]::AC g3 58 #[.slice A0 pa.length e0,.slice A1 he.length e1,.slice A2 od.length e2,.slice A3 oi.length e3]::AC g2 24 #[Iv (n:Nat),.slice A es.length cap]::AT 3 rs) J J J J J (AP (cs':=#[_]) J J J ET J (A1f J) J) (PK (.cons 11 J .nil)) ?_;refine AF J ?_;simp only[zq,zr];refine Aa ?_;refine DC.cutD (ι:=Nat×(Int->Int×Int)) (fun j=>∀v:Int,0<=v->v<n->SI (Bv es (Ae pa) (Ae he) (Ae oi) v) (j.2 v)) (fun j=>[Nz j.1]) (fun _=>[(2,Pv g2),(3,Pv g3),(4,Pv g4),(7,Iv (es.length:Nat)),(8,Sv g43 es.length),(9,Pv g9),(10,Pv g10),(12,Pv g12),(13,Pv g13)])
  (fun j=>[Jq j.1,AC g89 3 (AA (BA n fun v=>(j.2 (v:Int)).1)).toArray,AC g92 3 (AA (BA n fun v=>(j.2 (v:Int)).2)).toArray,AC g12 37 #[Sv g89 n],AC g13 37 #[Sv g92 n],AC g43 3 (AA (BA es.length fun e=>Aj es (Ae oi e))).toArray,AC g45 3 (AA (BA es.length fun e=>AD es (Ae oi e))).toArray,AC g9 37 #[Sv g45 es.length],AC g4 62 #[Nv,Nv,Nv,Nv],AC g3 58 #[.slice A0 pa.length e0,.slice A1 he.length e1,.slice A2 od.length e2,.slice A3 oi.length e3],AC g2 24 #[Iv (n:Nat),.slice A es.length cap]]) ?firstb2 ?restb2
 case firstb2=>
  refine Zs<|Zz [1,0] ?_;refine Bk J J (AH en49 J J J (fun w' hw=>M4 (hD.own hw).h2)) ?_;rintro _ _ ⟨gb,rfl,rfl⟩;simp only[zs];refine Zx<|As ?_;refine DC.weak (E':=[(2,Pv g2),(3,Pv g3),(4,Pv g4),(7,Iv (es.length:Nat)),(8,Sv g43 es.length),(9,Pv g9),(10,Pv g10),(12,Pv g12),(13,Pv g13),(95,bwdV gb)]) ⟨J,J,J,J,J,J,J,J,J,J,trivial⟩ (Bg (BC (BC (Bg (Ay _))))) ?_;let cc:=AC gb 37 #[.slice A2 od.length e2];refine Xf (ι:=Int->Int×Int) (κ:=Unit) (fun k fs=>k<=n/\∀(q:Nat) x,od[q]? =some x->n<=q+k->SI (Bv es (Ae pa) (Ae he) (Ae oi) x) (fs x)) (fun fs=>cc::AC g13 37 #[Sv g92 n]::AC g12 37 #[Sv g89 n]::AC g92 3 (AA (BA n fun v=>(fs (v:Int)).2)).toArray::AC g89 3 (AA (BA n fun v=>(fs (v:Int)).1)).toArray::AC g48 37 (Ba rs).toArray::AC g43 3 (AA (BA es.length fun e=>Aj es (Ae oi e))).toArray::AC g45 3 (AA (BA es.length fun e=>AD es (Ae oi e))).toArray::AC g10 25 #[Sv g48 n]::AC g9 37 #[Sv g45 es.length]::AC g4 62 #[Nv,Nv,Nv,Nv]::AC g3 58 #[.slice A0 pa.length e0,.slice A1 he.length e1,.slice A2 od.length e2,.slice A3 oi.length e3]::AC g2 24 #[Iv (n:Nat),.slice A es.length cap]::AT 3 rs) (fun c j=>False) (fun j=>[]) (fun _=>(0,0)) J en91 (NG gb (.slice A2 od.length e2) od) ?rdy1
   ⟨A1E _,fun q x hx hq=>by have:=(A1e.1 hx).1;omega⟩ (Ay _) ?body1 ?done1 ?stop1
  case rdy1=>
   exact fun k j w' hj hw=>⟨B0 (K:=[]) J w' hw,(hD.own hw).h2⟩
  case body1=>
   rintro l r q D k fs x hx ⟨hk,hfs⟩;have hlt:k<n:=by
    have:=(A1e.1 hx).1;rw[Jh] at this;omega
   rw[ZO (by omega)] at hx;cases hx;obtain⟨q0,hq0⟩:∃q0,q0=od.length-1-k:=⟨_,rfl⟩;rw[<-hq0];have hx0:od[q0]? =some (Ae od q0):=CC (by omega);obtain⟨v,hv0⟩:∃v,v=Ae od q0:=⟨_,rfl⟩;rw[<-hv0] at hx0 ⊢;obtain⟨v0,v1⟩:=(hW.mem v).1 (A1h hx0);obtain⟨pv,hpv⟩:∃p,rs[v.toNat]? =some p:=⟨_,A1d (by omega)⟩;have ev:=hrs _ pv hpv;rw[show((v.toNat:Nat):Int)=v by omega] at ev;have lv:=Yw es oi es.length v;rw[<-ev] at lv;have hmemv:∀h,h∈pv.2↔DS es (Ae oi) h/\Aj es h=v:=fun h=>by rw[ev];exact YC hF hoil
   simp only[zs];refine DR.know (φ:=∃A c,pv.1= .slice A pv.2.length c/\(0<pv.2.length->∃ad,A=some ad)) (fun w hw=>?_) ?_
   .obtain⟨A,c,e,hr,_⟩:=HT (F:=[_,_,_,_,_,_,_,_,_,_,_,_,_,_,_]) hw hpv (by omega);refine⟨A,c,e,fun hp=>?_⟩;obtain⟨ad,ha,_⟩:=hr.int (CC hp);exact⟨ad,ha⟩
   rintro⟨Av,cv,hpe,hAv⟩;refine DR.region J (fun _ _ h=>h) ?_;refine Za<|Az ?_;refine SS ?_;refine DR.block ?_;refine DR.seq ?_;refine DR.region J (fun _ _ h=>h) ?_;refine Bk J J (AH en50 J J J (fun w' hw=>JM w')) ?_;rintro _ _ ⟨ga,gc,rfl,rfl⟩;simp only[zs];refine Zz [5]<|Az<|Di ?_;refine DR.seq ?_;refine DR.seq ?_;refine DR.region J (fun _ _ h=>h) ?_;refine Zz [0,1] ?_;refine Zj ⟨g48,v.toNat,none⟩ ?_;refine Zu (AG J J D8 (AK (by rw[FM hpv,hpe]))) ?_;refine Zz [2]<|Az<|Di ?_;refine DR.block ?_;refine DR.loop (ι:=TlJ) (fun j=>j.j<=pv.2.length/\j.p=IJ ((pv.2.take j.j).flatMap (told es (Ae pa) (Ae he) fs))) (fun j=>[(2,Pv g2),(3,Pv g3),(4,Pv g4),(7,Iv (es.length:Nat)),(8,Sv g43 es.length),(9,Pv g9),(10,Pv g10),(12,Pv g12),(13,Pv g13),(15,Iv v),(16,tellV ga gc),(17,twoV ga gc),(105,.slice Av pv.2.length cv),(106,Iv (pv.2.length:Nat)),(107,Iv (j.j:Nat))])
    (fun j=>AC ga 3 #[Iv j.p.1]::AC gc 3 #[Iv j.p.2]::HF l q::Jq D::cc::AC g13 37 #[Sv g92 n]::AC g12 37 #[Sv g89 n]::AC g92 3 (AA (BA n fun v=>(fs (v:Int)).2)).toArray::AC g89 3 (AA (BA n fun v=>(fs (v:Int)).1)).toArray::AC g48 37 (Ba rs).toArray::AC g43 3 (AA (BA es.length fun e=>Aj es (Ae oi e))).toArray::AC g45 3 (AA (BA es.length fun e=>AD es (Ae oi e))).toArray::AC g10 25 #[Sv g48 n]::AC g9 37 #[Sv g45 es.length]::AC g4 62 #[Nv,Nv,Nv,Nv]::AC g3 58 #[.slice A0 pa.length e0,.slice A1 he.length e1,.slice A2 od.length e2,.slice A3 oi.length e3]::AC g2 24 #[Iv (n:Nat),.slice A es.length cap]::AT 3 rs) (fun j=>pv.2.length-j.j) ⟨0,(mx,mx)⟩ ⟨A1E _,by simp[IJ]⟩ ⟨J,J,J,J,J,J,J,J,J,J,J,J,J,J,J,trivial⟩ (Ay _) ?_;rintro⟨j,p⟩ ⟨hj,hp⟩;dsimp only at hj hp ⊢;refine DR.seq ?_;refine DR.region J (fun _ _ h=>h) ?_;refine Zc<|Az<|Di ?_;refine DR.seq ?_;refine DR.cond J (fun c18=>?_) (fun c18=>?_)
   .have hltj:j<pv.2.length:=by simpa using c18
    obtain⟨h,hh⟩:∃h,pv.2[j]? =some h:=⟨_,A1d hltj⟩;obtain⟨hor,hfr⟩:=(hmemv h).1 (A1h hh);have hh0:=hor.1.1;have hh1:=hor.1.2;obtain⟨_,t0,t1⟩:=hF.rng hor.1;have hoe:Ae oi (h / 2)=h:=hor.2;obtain⟨adv,rfl⟩:=hAv (by omega);obtain⟨ad0,rfl,hx0p⟩:=x0 (AD es h) t0 (by omega);obtain⟨ad1,rfl,hx1p⟩:=x1 (AD es h) t0 (by omega);have htw:((AD es h).toNat:Int)=AD es h:=by omega
    refine DR.skip<|Di ?_;refine DR.seq ?_;refine DR.block ?_;refine DR.seq ?_;refine DR.region J (fun _ _ h=>h) ?_;refine Zj (adv.add j) ?_;refine Zu (AG J J CA ((fun w hw=>TY (F:=[_,_,_,_,_,_,_,_,_,_,_,_,_,_,_,_,_]) hpv hpe hh (by omega) w hw))) ?_;refine Za<|Az<|Di ?_;refine DR.seq ?_;refine DR.region J (fun _ _ h=>h) ?_;refine Zz [0,1] ?_;refine Zo (Gi J J J (by omega) (by omega)) ?_;refine Zj ⟨g45,(h / 2).toNat,none⟩ ?_;refine Zu (AG J J CA (AK (show _=some (Iv (AD es h)) from by rw[BB (by omega),show(((h / 2).toNat:Nat):Int)=h / 2 by omega,hoe]))) ?_;refine Za<|Az<|Di ?_;refine DR.seq ?_;refine DR.region J (fun _ _ h=>h) ?_;refine Zz [1,1] ?_;refine Zj (ad0.add (AD es h).toNat) ?_;refine Zu (AG J J CA (hx0p _)) ?_;refine Zz [2]<|Az<|Di ?_;refine DR.cond J (fun c21=>?_) (fun c21=>?_)
    .refine DR.seq ?_;refine DR.region J (fun _ _ h=>h) ?_;refine Zz [1,1] ?_;refine Zj ⟨g89,(AD es h).toNat,none⟩ ?_;refine Zu (AG J J CA (AK (show _=some (Iv (fs (AD es h)).1) from by rw[BB (by omega),htw]))) ?_;refine AU J J (BT Uc J J J (Lc:=Nm ga gc p) (F:=_) (.refl _) (fun _ h=>h) (fun w hw=>Em _ (hw.sub (A1J (Nm _ _ _) _)).self)) ?_;rintro _ _ ⟨_,⟨rfl,rfl⟩,rfl⟩;simp only[zs];refine Az<|Di ?_;refine DR.region J (fun _ _ h=>h) ?_;refine Zz [1,1] ?_;refine Zj ⟨g92,(AD es h).toNat,none⟩ ?_;refine Zu (AG J J CA (AK (show _=some (Iv (fs (AD es h)).2) from by rw[BB (by omega),htw]))) ?_;refine AU J J (BT Uc J J J (Lc:=Nm ga gc (CV p (fs (AD es h)).1)) (F:=_) (.refl _) (fun _ h=>h) (fun w hw=>Em _ (hw.sub (A1J (Nm _ _ _) _)).self)) ?_;rintro _ _ ⟨_,⟨rfl,rfl⟩,rfl⟩;simp only[zs];refine Az<|An<|Di ?_;refine DR.region J (fun _ _ h=>h) ?_;refine Zz [2]<|Az ?_;refine AB ⟨j+1,CV (CV p (fs (AD es h)).1) (fs (AD es h)).2⟩ (by dsimp only;omega) ⟨by dsimp only;omega,?_⟩ ⟨J,J,J,J,J,J,J,J,J,J,J,J,J,J,J,trivial⟩ (Ay _);have e:told es (Ae pa) (Ae he) fs h=[(fs (AD es h)).1,(fs (AD es h)).2]:=by unfold told;rw[if_pos (by simpa using c21)]
     dsimp only;rw[A1W,hh,List.flatMap_append,QE,<-hp];simp[e]
    refine DR.region J (fun _ _ h=>h) ?_;refine Zz [2,1] ?_;refine Zj (ad1.add (AD es h).toNat) ?_;refine Zu (AG J J CA (hx1p _)) ?_;refine AU J J (BT Uc J J J (Lc:=Nm ga gc p) (F:=_) (.refl _) (fun _ h=>h) (fun w hw=>Em _ (hw.sub (A1J (Nm _ _ _) _)).self)) ?_;rintro _ _ ⟨_,⟨rfl,rfl⟩,rfl⟩;simp only[zs];refine Az<|An<|Di ?_;refine DR.region J (fun _ _ h=>h) ?_;refine Zz [2]<|Az ?_;refine AB ⟨j+1,CV p (Ae he (AD es h))⟩ (by dsimp only;omega) ⟨by dsimp only;omega,?_⟩ ⟨J,J,J,J,J,J,J,J,J,J,J,J,J,J,J,trivial⟩ (Ay _);have e:told es (Ae pa) (Ae he) fs h=[Ae he (AD es h)]:=by unfold told;rw[if_neg (by simpa using c21)]
    dsimp only;rw[A1W,hh,List.flatMap_append,QE,<-hp];simp[e]
   have hje:j=pv.2.length:=by simp at c18;omega
   subst hje;rw[A1T] at hp;have hcut:∀h,h∈pv.2->Ae pa (AD es h)=h->SI (Bv es (Ae pa) (Ae he) (Ae oi) (AD es h)) (fs (AD es h)):=fun h hm hp'=>by
    obtain⟨ho,hf⟩:=(hmemv h).1 hm;obtain⟨_,t0,t1⟩:=hF.rng ho.1;obtain⟨q1,hq1⟩:=A1j.1 ((hW.mem (AD es h)).2 ⟨t0,t1⟩);obtain⟨j',hj',hjo⟩:=hW.ord q1 _ hq1 (by rw[hp'];exact ho.1.1);rw[hp',hf] at hjo;have e1:=hW.nod.idxOf_getElem j' (A1e.1 hjo).1;have e2:=hW.nod.idxOf_getElem q0 (A1e.1 hx0).1;rw[(A1e.1 hjo).2] at e1;rw[(A1e.1 hx0).2] at e2;exact hfs q1 _ hq1 (by omega)
   have hbnd:∀v:Int,0<=v->v<n->Ae he v<mx:=fun v a b=>by have:=hW.hb v a b;unfold mx;omega
   have hTwo:SI (Bv es (Ae pa) (Ae he) (Ae oi) v) p:=by rw[hp];exact Xx hF hbnd hmemv hcut
   refine DR.exit<|Ag<|Ag<|Aq<|Di ?_;refine DR.flow (cl:=[.v,.q,.q,.q,.q,.r,.q,.q,.q,.q,.g,.q,.g]) (A:=[0,0,0,0,0,16,48,112,112,243,755,2047,4095]) (order:=[0,1,2,3,4,5,6,7,8,9,10,11,12]) ([AC g13 37 #[Sv g92 n]]) mixed (by kernel_rfl) (by kernel_rfl) (fun _ _ h=>h) (PK (Xn .nil)) ?_;refine Yz [0,1] ?_;refine BG J J J (AG J J D8 (B0 J)) ?_;refine Yz [2] ?_;refine BF.rel0 J J J J (AH en93 J J J (fun w hw=>NT (p:=p) (hw.holds (AC ga 3 #[Iv p.1]) (by simp)) (hw.holds (AC gc 3 #[Iv p.2]) (by simp)))) ?_;rintro _ rfl;refine Yz [3] ?_;refine Yj ⟨g89,v.toNat,none⟩ ?_;refine AO J J J J (AP (cs':=(AA (BA n (upd (fun v=>(fs (v:Int)).1) v.toNat p.1))).toArray) J J J Bw J (by simp;omega) BU) (PK (Xn .nil)) ?_;refine Yj ⟨g92,v.toNat,none⟩ ?_;refine AO J J J J (AP (cs':=(AA (BA n (upd (fun v=>(fs (v:Int)).2) v.toNat p.2))).toArray) J J J Bw J (by simp;omega) BU) (PK (Xn .nil)) ?_;refine AF J ?_;simp only[zq,zr];refine An ?_;refine Dl.own (fun w hw=>hw.sub ((A1k _ _).trans (A1k _ _))) ?_;refine Dl.round (fun x=>if x=v then p else fs x) ⟨by omega,fun q' x hx hq'=>?_⟩ (Bg (Bg (Bg (Bg (Bg (.cons' 0 J (Bi fun x _=>?_) (.cons' 0 J (Bi fun x _=>?_) (Ay _))))))))
   .dsimp only;by_cases c:x=v
    .rw[if_pos c,c];exact hTwo
    rw[if_neg c];refine hfs q' x hx ?_;have:q'≠q0:=fun e=>by rw[e,hx0] at hx;exact c (Option.some.inj hx).symm
    omega
   .unfold upd;dsimp only;by_cases c:x=v.toNat
    .rw[if_pos c,if_pos (by omega)]
    rw[if_neg c,if_neg (by omega)]
   unfold upd;dsimp only;by_cases c:x=v.toNat
   .rw[if_pos c,if_pos (by omega)]
   rw[if_neg c,if_neg (by omega)]
  case done1=>
   rintro D fs ⟨hk,hfs⟩;rw[Jh] at hk hfs;refine An ?_;refine Xa (D,fs) (fun v v0 v1=>?_) J ⟨J,J,J,J,J,J,J,J,J,trivial⟩ (Bg (LQ (Et (CY (BC (CY (CY (Et (Et (Et (Et .nil)))))))))));obtain⟨q1,hq1⟩:=A1j.1 ((hW.mem v).2 ⟨v0,v1⟩);exact hfs q1 v hq1 (by omega)
  case stop1=>
   exact fun D c j h=>h.elim
 rintro⟨D,fs⟩ hfs;dsimp only at hfs ⊢;refine Ai ?_;refine Fw 320210202020 [0,2,4,6,7,1,3,5,8,9,10,11] [] PN ?_;refine Yz [4,0] ?_;refine A8 J J J J (B6 (k:=es.length) J J J A1x Bw Fz C6 J (by omega) (by omega) (BS _)) fun g155=>?_;refine A8 J J J J (B6 (k:=es.length) J J J A1x Bw Fz C6 J (by omega) (by omega) (BS _)) fun g157=>?_;refine A8 J J J J (B6 (k:=es.length) J J J A1x Bw Fz C6 J (by omega) (by omega) (BS _)) fun g159=>?_;refine A8 J J J J (B6 (k:=n) (cs:=(Ba (List.replicate n (Nv,[]))).toArray) J J J A1B ET Sx Gq J (by omega) (by omega) (by rw[F3 _ rfl];simp[Ba])) fun g162=>?_;refine Yo J (Dy (cs:=#[_,_,_,_]) J J bs62 J J) ?_;refine A8 J J J J (DL J ze62 J) fun g21=>?_;refine BF.sto (V:=[AC g21 62 #[Nv,Nv,Nv,Nv],AC g162 37 (Ba (List.replicate n (Nv,[]))).toArray,AC g159 3 (AA (BA es.length fun x=>0)).toArray,AC g157 3 (AA (BA es.length fun x=>0)).toArray,AC g155 3 (AA (BA es.length fun x=>0)).toArray,Jq D,AC g89 3 (AA (BA n fun v=>(fs (v:Int)).1)).toArray,AC g92 3 (AA (BA n fun v=>(fs (v:Int)).2)).toArray,AC g12 37 #[Sv g89 n],AC g13 37 #[Sv g92 n],AC g43 3 (AA (BA es.length fun e=>Aj es (Ae oi e))).toArray,AC g45 3 (AA (BA es.length fun e=>AD es (Ae oi e))).toArray,AC g9 37 #[Sv g45 es.length],AC g4 62 #[Nv,Nv,Nv,Nv],AC g3 58 #[.slice A0 pa.length e0,.slice A1 he.length e1,.slice A2 od.length e2,.slice A3 oi.length e3],AC g2 24 #[Iv (n:Nat),.slice A es.length cap]]) J J J J J (B3 (cs':=#[_,_,_,_]) J J J sz62 J (A1f J) J) PN ?_;refine AF J ?_;simp only[zq,zr];refine Aa ?_;refine DC.cut (ι:=Unit) (fun _=>True) (fun _=>[(2,Pv g2),(3,Pv g3),(4,Pv g4),(7,Iv (es.length:Nat)),(8,Sv g43 es.length),(9,Pv g9),(10,Pv g10),(12,Pv g12),(13,Pv g13),(21,Pv g21)])
  (fun _=>[AC g155 3 (AA (BA es.length fun e=>(Ed es pa he fs (Ae oi e)).1)).toArray,AC g159 3 (AA (BA es.length fun e=>HJ (Ed es pa he fs (Ae oi e)) (Ae he (Aj es (Ae oi e))))).toArray,AC g162 37 (Ba (List.replicate n (Nv,[]))).toArray,AC g21 62 #[Sv g155 es.length,Sv g157 es.length,Sv g159 es.length,Sv g162 n],Jq D,AC g89 3 (AA (BA n fun v=>(fs (v:Int)).1)).toArray,AC g92 3 (AA (BA n fun v=>(fs (v:Int)).2)).toArray,AC g12 37 #[Sv g89 n],AC g13 37 #[Sv g92 n],AC g43 3 (AA (BA es.length fun e=>Aj es (Ae oi e))).toArray,AC g45 3 (AA (BA es.length fun e=>AD es (Ae oi e))).toArray,AC g9 37 #[Sv g45 es.length],AC g4 62 #[Nv,Nv,Nv,Nv],AC g3 58 #[.slice A0 pa.length e0,.slice A1 he.length e1,.slice A2 od.length e2,.slice A3 oi.length e3],AC g2 24 #[Iv (n:Nat),.slice A es.length cap]]) ?firstb6 ?restb6
 case firstb6=>
  refine Zs<|Zz [2]<|Zx<|As ?_;refine AS (ι:=EdI) (fun j=>j.i<=es.length) (fun j=>[(2,Pv g2),(3,Pv g3),(4,Pv g4),(7,Iv (es.length:Nat)),(8,Sv g43 es.length),(9,Pv g9),(10,Pv g10),(12,Pv g12),(13,Pv g13),(21,Pv g21),(164,Iv (es.length:Nat)),(165,Iv (j.i:Nat))])
   (fun j=>[AC g155 3 (AA (BA es.length fun e=>if e<j.i then(Ed es pa he fs (Ae oi e)).1 else 0)).toArray,AC g157 3 (AA (BA es.length fun e=>if e<j.i then E3 (Ed es pa he fs (Ae oi e)) else 0)).toArray,AC g159 3 (AA (BA es.length fun e=>if e<j.i then HJ (Ed es pa he fs (Ae oi e)) (Ae he (Aj es (Ae oi e))) else 0)).toArray,AC g162 37 (Ba (List.replicate n (Nv,[]))).toArray,AC g21 62 #[Sv g155 es.length,Sv g157 es.length,Sv g159 es.length,Sv g162 n],Jq D,AC g89 3 (AA (BA n fun v=>(fs (v:Int)).1)).toArray,AC g92 3 (AA (BA n fun v=>(fs (v:Int)).2)).toArray,AC g12 37 #[Sv g89 n],AC g13 37 #[Sv g92 n],AC g43 3 (AA (BA es.length fun e=>Aj es (Ae oi e))).toArray,AC g45 3 (AA (BA es.length fun e=>AD es (Ae oi e))).toArray,AC g9 37 #[Sv g45 es.length],AC g4 62 #[Nv,Nv,Nv,Nv],AC g3 58 #[.slice A0 pa.length e0,.slice A1 he.length e1,.slice A2 od.length e2,.slice A3 oi.length e3],AC g2 24 #[Iv (n:Nat),.slice A es.length cap]]) (fun j=>es.length-j.i) ⟨0⟩ (A1E _)
   ⟨rfl,rfl,rfl,rfl,rfl,rfl,rfl,rfl,rfl,rfl,rfl,rfl,trivial⟩ (.cons' 4 rfl (Bi fun x _=>by simp) (.cons' 3 rfl (Bi fun x _=>by simp) (.cons' 2 rfl (Bi fun x _=>by simp) (BC (Bg (Ay _)))))) ?_;rintro⟨i⟩ hi;dsimp only at hi ⊢;refine Zs<|Zc<|Zx<|Ai ?_;refine Zd ?_ ?_<;>intro c29
  .have hlt:i<es.length:=by simpa using c29
   have hoi:oi[i]? =some (Ae oi i):=CC (by omega);have hor:=hF.ori i (by omega) (by omega);have hvh:VH es (Ae oi i):=by rcases hor with e|e<;>exact⟨by omega,by omega⟩
   obtain⟨⟨u0,u1⟩,t0,t1⟩:=hF.rng hvh;obtain⟨h,hh⟩:∃h,h=Ae oi i:=⟨_,rfl⟩;rw[<-hh] at hoi hor hvh u0 u1 t0 t1;have hpu:=hF.pos (Aj es h) u0 u1;have hbu:=hW.hb (Aj es h) u0 u1;have hpt:=hF.pos (AD es h) t0 t1;have hbt:=hW.hb (AD es h) t0 t1;obtain⟨ad0,rfl,hx0p⟩:=x0 (AD es h) t0 (by omega);obtain⟨ad1,rfl,hx1t⟩:=x1 (AD es h) t0 (by omega);obtain⟨ad1',hh1,hx1u⟩:=x1 (Aj es h) u0 (by omega);cases hh1;obtain⟨ad3,rfl,hx3i⟩:=x3 i (by omega) (by omega);rw[<-hh] at hx3i;have htw:((AD es h).toNat:Int)=AD es h:=by omega
   refine Ao<|Aa<|Ai<|As<|Zs<|Zz [2]<|Zx<|Ai ?_;refine Fv 100110100010 14 ?_;refine Yz [1,2] ?_;refine Yi (ad':=⟨g43,i,none⟩) A1x Bw ?_ (he:=by rw[AX];rfl);refine Yg ?_ (hh:=by exact(AK (show _=some (Iv (Aj es h)) from by rw[BB hlt,hh])));refine Yj (ad1.add (Aj es h).toNat) ?_;refine Yh (hx1u _) ?_;refine Yz [0,1] ?_;refine Yi (ad':=⟨g45,i,none⟩) A1x Bw ?_ (he:=by rw[AX];rfl);refine Yg ?_ (hh:=by exact(AK (show _=some (Iv (AD es h)) from by rw[BB hlt,hh])));refine Yz [2] ?_;refine AF J ?_;simp only[zq,zr];refine Aa<|Zs ?_;refine Bk J J (AH en50 J J J (fun w' hw=>JM w')) ?_;rintro _ _ ⟨ga,gc,rfl,rfl⟩;simp only[zs];refine Zz [5]<|Zx<|Zs ?_;refine Zz [2] ?_;refine AU J J (BT Uc J J J (Lc:=Nm ga gc (mx,mx)) (F:=_) (.refl _) (fun _ h=>h) (fun w hw=>Em _ (hw.sub (A1J (Nm _ _ _) _)).self)) ?_;rintro _ _ ⟨_,⟨rfl,rfl⟩,rfl⟩;simp only[zs];refine Zx ?_;refine DC.cut (ι:=Unit) (fun _=>True) (fun _=>[(2,Pv g2),(3,Pv g3),(4,Pv g4),(7,Iv (es.length:Nat)),(8,Sv g43 es.length),(9,Pv g9),(10,Pv g10),(12,Pv g12),(13,Pv g13),(21,Pv g21),(164,Iv (es.length:Nat)),(165,Iv (i:Nat)),(22,Iv (i:Nat)),(23,Iv (Ae he (Aj es h))),(26,twoV ga gc)])
    (fun _=>[AC ga 3 #[Iv (Ed es pa he fs h).1],AC gc 3 #[Iv (Ed es pa he fs h).2],AC g155 3 (AA (BA es.length fun e=>if e<i then(Ed es pa he fs (Ae oi e)).1 else 0)).toArray,AC g157 3 (AA (BA es.length fun e=>if e<i then E3 (Ed es pa he fs (Ae oi e)) else 0)).toArray,AC g159 3 (AA (BA es.length fun e=>if e<i then HJ (Ed es pa he fs (Ae oi e)) (Ae he (Aj es (Ae oi e))) else 0)).toArray,AC g162 37 (Ba (List.replicate n (Nv,[]))).toArray,AC g21 62 #[Sv g155 es.length,Sv g157 es.length,Sv g159 es.length,Sv g162 n],Jq D,AC g89 3 (AA (BA n fun v=>(fs (v:Int)).1)).toArray,AC g92 3 (AA (BA n fun v=>(fs (v:Int)).2)).toArray,AC g12 37 #[Sv g89 n],AC g13 37 #[Sv g92 n],AC g43 3 (AA (BA es.length fun e=>Aj es (Ae oi e))).toArray,AC g45 3 (AA (BA es.length fun e=>AD es (Ae oi e))).toArray,AC g9 37 #[Sv g45 es.length],AC g4 62 #[Nv,Nv,Nv,Nv],AC g3 58 #[.slice (some ad0) pa.length e0,.slice (some ad1) he.length e1,.slice A2 od.length e2,.slice (some ad3) oi.length e3],AC g2 24 #[Iv (n:Nat),.slice A es.length cap]]) ?first37 ?rest37
   case first37=>
    refine Ai ?_;refine Fv 1001010010 11 ?_;refine Yz [1,1] ?_;refine Yj (ad0.add (AD es h).toNat) ?_;refine Yh (hx0p _) ?_;refine Yz [1,1] ?_;refine Yj (ad3.add i) ?_;refine Yh (hx3i _) ?_;refine Yz [1] ?_;refine AF J ?_;simp only[zq,zr];refine Aa ?_;refine Zd ?_ ?_<;>intro c34
    .refine Zs<|Zz [1,1] ?_;refine Zj ⟨g89,(AD es h).toNat,none⟩ ?_;refine Zu (AG J J CA (AK (show _=some (Iv (fs (AD es h)).1) from by rw[BB (by omega),htw]))) ?_;refine Zm ?_;refine Zo (Ob J J J) ?_;refine AU J J (BT Uc J J J (Lc:=Nm ga gc (CV (mx,mx) (Ae he (Aj es h)))) (F:=_) (.refl _) (fun _ h=>h) (fun w hw=>Em _ (hw.sub (A1J (Nm _ _ _) _)).self)) ?_;rintro _ _ ⟨_,⟨rfl,rfl⟩,rfl⟩;simp only[zs];refine Zx<|Ak<|Zz [1,1] ?_;refine Zj ⟨g92,(AD es h).toNat,none⟩ ?_;refine Zu (AG J J CA (AK (show _=some (Iv (fs (AD es h)).2) from by rw[BB (by omega),htw]))) ?_;refine Zm ?_;refine Zo (Ob J J J) ?_;refine AU J J (BT Uc J J J (Lc:=Nm ga gc (CV (CV (mx,mx) (Ae he (Aj es h))) (min (fs (AD es h)).1 (Ae he (Aj es h))))) (F:=_) (.refl _) (fun _ h=>h) (fun w hw=>Em _ (hw.sub (A1J (Nm _ _ _) _)).self)) ?_;rintro _ _ ⟨_,⟨rfl,rfl⟩,rfl⟩;simp only[zs];refine Az ?_;have ep:∀q,q=Ed es pa he fs h->([AC ga 3 #[Iv (Ed es pa he fs h).1],AC gc 3 #[Iv (Ed es pa he fs h).2]]:List Chunk)=Nm ga gc q:=fun q hq=>by rw[hq]
     first
     | (have e:Ed es pa he fs h=CV (CV (CV (mx,mx) (Ae he (Aj es h))) (min (fs (AD es h)).1 (Ae he (Aj es h)))) (min (fs (AD es h)).2 (Ae he (Aj es h))):=(by
         unfold Ed;rw[if_pos (by simpa using c34)];rfl)
        exact Be () trivial ⟨J,J,J,J,J,J,J,J,J,J,J,J,J,J,J,trivial⟩ (.cons' 0 J (by rw[e]) (.cons' 0 J (by rw[e]) (Ay _))))
     | (have e:Ed es pa he fs h=CV (CV (mx,mx) (Ae he (Aj es h))) (Ae he (AD es h)):=(by
         unfold Ed;rw[if_neg (by simpa using c34)];rfl)
        exact Be () trivial ⟨J,J,J,J,J,J,J,J,J,J,J,J,J,J,J,trivial⟩ (.cons' 0 J (by rw[e]) (.cons' 0 J (by rw[e]) (Ay _))))
    refine Ak<|Zz [2,1] ?_;refine Zj (ad1.add (AD es h).toNat) ?_;refine Zu (AG J J CA (hx1t _)) ?_;refine AU J J (BT Uc J J J (Lc:=Nm ga gc (CV (mx,mx) (Ae he (Aj es h)))) (F:=_) (.refl _) (fun _ h=>h) (fun w hw=>Em _ (hw.sub (A1J (Nm _ _ _) _)).self)) ?_;rintro _ _ ⟨_,⟨rfl,rfl⟩,rfl⟩;simp only[zs];refine Az ?_;have ep:∀q,q=Ed es pa he fs h->([AC ga 3 #[Iv (Ed es pa he fs h).1],AC gc 3 #[Iv (Ed es pa he fs h).2]]:List Chunk)=Nm ga gc q:=fun q hq=>by rw[hq]
    first
    | (have e:Ed es pa he fs h=CV (CV (CV (mx,mx) (Ae he (Aj es h))) (min (fs (AD es h)).1 (Ae he (Aj es h)))) (min (fs (AD es h)).2 (Ae he (Aj es h))):=(by
        unfold Ed;rw[if_pos (by simpa using c34)];rfl)
       exact Be () trivial ⟨J,J,J,J,J,J,J,J,J,J,J,J,J,J,J,trivial⟩ (.cons' 0 J (by rw[e]) (.cons' 0 J (by rw[e]) (Ay _))))
    | (have e:Ed es pa he fs h=CV (CV (mx,mx) (Ae he (Aj es h))) (Ae he (AD es h)):=(by
        unfold Ed;rw[if_neg (by simpa using c34)];rfl)
       exact Be () trivial ⟨J,J,J,J,J,J,J,J,J,J,J,J,J,J,J,trivial⟩ (.cons' 0 J (by rw[e]) (.cons' 0 J (by rw[e]) (Ay _))))
   intro _ _;obtain⟨p,hp⟩:∃p,p=Ed es pa he fs h:=⟨_,rfl⟩;rw[<-hp];have hlo:0<=p.1/\p.1<=4194304:=by
    have hho:DS es (Ae oi) h:=⟨hvh,by rw[show h / 2=(i:Int) by omega];exact hh.symm⟩;have:=OA hF hW.hn hho (Y8 hF (fun v a b=>by have:=hW.hb v a b;unfold mx;omega) hfs hho);rw[hp];omega
   refine Zs<|Zm ?_;refine AL J J (AH en93 J J J (fun w hw=>NT (p:=p) (hw.holds (AC ga 3 #[Iv p.1]) (by simp)) (hw.holds (AC gc 3 #[Iv p.2]) (by simp)))) ?_;rintro _ rfl;refine Zz [5]<|Zx ?_;refine DC.cut (ι:=Unit) (fun _=>True) (fun _=>[(2,Pv g2),(3,Pv g3),(4,Pv g4),(7,Iv (es.length:Nat)),(8,Sv g43 es.length),(9,Pv g9),(10,Pv g10),(12,Pv g12),(13,Pv g13),(21,Pv g21),(164,Iv (es.length:Nat)),(165,Iv (i:Nat)),(22,Iv (i:Nat)),(23,Iv (Ae he (Aj es h))),(27,Iv p.1),(28,Iv (E3 p))])
    (fun _=>[AC g155 3 (AA (BA es.length fun e=>if e<i then(Ed es pa he fs (Ae oi e)).1 else 0)).toArray,AC g157 3 (AA (BA es.length fun e=>if e<i then E3 (Ed es pa he fs (Ae oi e)) else 0)).toArray,AC g159 3 (AA (BA es.length fun e=>if e<i then HJ (Ed es pa he fs (Ae oi e)) (Ae he (Aj es (Ae oi e))) else 0)).toArray,AC g162 37 (Ba (List.replicate n (Nv,[]))).toArray,AC g21 62 #[Sv g155 es.length,Sv g157 es.length,Sv g159 es.length,Sv g162 n],Jq D,AC g89 3 (AA (BA n fun v=>(fs (v:Int)).1)).toArray,AC g92 3 (AA (BA n fun v=>(fs (v:Int)).2)).toArray,AC g12 37 #[Sv g89 n],AC g13 37 #[Sv g92 n],AC g43 3 (AA (BA es.length fun e=>Aj es (Ae oi e))).toArray,AC g45 3 (AA (BA es.length fun e=>AD es (Ae oi e))).toArray,AC g9 37 #[Sv g45 es.length],AC g4 62 #[Nv,Nv,Nv,Nv],AC g3 58 #[.slice (some ad0) pa.length e0,.slice (some ad1) he.length e1,.slice A2 od.length e2,.slice (some ad3) oi.length e3],AC g2 24 #[Iv (n:Nat),.slice A es.length cap]]) ?first40 ?rest40
   case first40=>
    refine Zs<|Zz [2]<|Zx ?_;refine Zd ?_ ?_<;>intro c39
    .refine Ak<|Zz [2]<|Az ?_;have e:E3 p=p.1:=by unfold E3;rw[if_pos (by unfold mx;simpa using c39)]
     exact Be () trivial ⟨J,J,J,J,J,J,J,J,J,J,J,J,J,J,J,by rw[e];rfl,trivial⟩ (CY (CY (CY (CY (CY (CY (CY (CY (CY (CY (CY (CY (CY (CY (CY (CY .nil))))))))))))))))
    refine Ao ?_;have e:E3 p=p.2:=by unfold E3;rw[if_neg (by unfold mx;simpa using c39)]
    exact Be () trivial ⟨J,J,J,J,J,J,J,J,J,J,J,J,J,J,J,by rw[e];rfl,trivial⟩ (CY (CY (CY (CY (CY (CY (CY (CY (CY (CY (CY (CY (CY (CY (CY (CY .nil))))))))))))))))
   intro _ _;refine Ai ?_;refine II (cl:=[.q,.v,.q,.q,.q,.q,.q,.q,.q,.q,.q,.q,.q,.q,.g,.q,.g,.q,.g]) (A:=[0,1,0,0,8,0,0,64,0,0,0,0,2048,519,8711,26175,58943,131071,262143]) (order:=[0,1,2,3,4,5,6,7,8,9,10,11,12,13,14,15,16,17,18]) ([AC g21 62 #[Sv g155 es.length,Sv g157 es.length,Sv g159 es.length,Sv g162 n]]) mixed (by kernel_rfl) (PK (LQ .nil)) ?_;refine Yz [1] ?_;refine Yl D8 ?_;refine Yz [2] ?_;refine BG J J J (AG J J D8 (AK J)) ?_;refine Yz [2] ?_;refine BG J J J (AG J J D8 (AK J)) ?_;refine Yz [4] ?_;refine Yo J (Dz J J J (by omega)) ?_;refine Yi (ad':=⟨g155,i,none⟩) A1x Bw ?_ (he:=by rw[AX];rfl);refine AO J J J J (AP (cs':=(AA (BA es.length (upd (fun e=>if e<i then(Ed es pa he fs (Ae oi e)).1 else 0) i p.1))).toArray) J J J Bw J (by simp;omega) BU) (PK (LQ .nil)) ?_;refine Yi (ad':=⟨g157,i,none⟩) A1x Bw ?_ (he:=by rw[AX];rfl);refine AO J J J J (AP (cs':=(AA (BA es.length (upd (fun e=>if e<i then E3 (Ed es pa he fs (Ae oi e)) else 0) i (E3 p)))).toArray) J J J Bw J (by simp;omega) BU) (PK (LQ .nil)) ?_;refine Yi (ad':=⟨g159,i,none⟩) A1x Bw ?_ (he:=by rw[AX];rfl);refine AO J J J J (AP (cs':=(AA (BA es.length (upd (fun e=>if e<i then HJ (Ed es pa he fs (Ae oi e)) (Ae he (Aj es (Ae oi e))) else 0) i (2*p.1)))).toArray) J J J Bw J (by simp;omega) BU) (PK (LQ .nil)) ?_;refine AF J ?_;simp only[zq,zr];refine Aa<|Zs<|Zz [4] ?_;refine AM 248 J (fun k42_3=>?_) (fun k42_3=>?_)
   .refine Zz [4]<|Zx ?_;refine Zd ?_ ?_<;>intro c42
    .refine Ak<|Zz [1,1] ?_;refine Zi (ad':=⟨g159,i,none⟩) A1x Bw ?_ (he:=by rw[AX];rfl);refine Zu (AG J J CA (AK (show _=some (Iv (2*p.1)) from by rw[BB hlt];unfold upd;rw[if_pos rfl]))) ?_;refine Zp ?_;refine Zi (ad':=⟨g159,i,none⟩) A1x Bw ?_ (he:=by rw[AX];rfl);refine Zy (AP (cs':=(AA (BA es.length (upd (upd (fun e=>if e<i then HJ (Ed es pa he fs (Ae oi e)) (Ae he (Aj es (Ae oi e))) else 0) i (2*p.1)) i (2*p.1+1)))).toArray) J J J Bw J (by simp;omega) BU)<|Az<|An<|Aa<|Ak ?_;refine Zz [2]<|Az ?_;have hpe:Ed es pa he fs (Ae oi i)=p:=by rw[hp,hh]
     have e1:∀x,x<es.length->upd (fun e=>if e<i then(Ed es pa he fs (Ae oi e)).1 else 0) i p.1 x=if x<i+1 then(Ed es pa he fs (Ae oi x)).1 else 0:=by
      intro x hx;have:=Jt (m:=es.length) (i:=i) (F:=fun e=>(Ed es pa he fs (Ae oi e)).1) x hx;rw[hpe] at this;exact this
     have e2:∀x,x<es.length->upd (fun e=>if e<i then E3 (Ed es pa he fs (Ae oi e)) else 0) i (E3 p) x=if x<i+1 then E3 (Ed es pa he fs (Ae oi x)) else 0:=by
      intro x hx;have:=Jt (m:=es.length) (i:=i) (F:=fun e=>E3 (Ed es pa he fs (Ae oi e))) x hx;rw[hpe] at this;exact this
     have e3:∀x,x<es.length->upd (fun e=>if e<i then HJ (Ed es pa he fs (Ae oi e)) (Ae he (Aj es (Ae oi e))) else 0) i (HJ p (Ae he (Aj es h))) x=if x<i+1 then HJ (Ed es pa he fs (Ae oi x)) (Ae he (Aj es (Ae oi x))) else 0:=by
      intro x hx;have:=Jt (m:=es.length) (i:=i) (F:=fun e=>HJ (Ed es pa he fs (Ae oi e)) (Ae he (Aj es (Ae oi e)))) x hx;rw[hpe,<-hh] at this;exact this
     have hup:∀(f:Nat->Int) (a b:Int) x,upd (upd f i a) i b x=upd f i b x:=fun f a b x=>by unfold upd;split<;>rfl
     first
     | (have e4:HJ p (Ae he (Aj es h))=2*p.1+1:=(by unfold HJ;rw[if_pos (by simp at k42_3 c42;omega)])
        exact AB ⟨i+1⟩ (by dsimp only;omega) (by dsimp only;omega) ⟨J,J,J,J,J,J,J,J,J,J,J,J,trivial⟩ (.cons' 0 J (Bi e1) (.cons' 0 J (Bi e2) (.cons' 0 J (Bi fun x hx=>by rw[hup,<-e4];exact e3 x hx) (Ay _)))))
     | (have e4:HJ p (Ae he (Aj es h))=2*p.1:=(by unfold HJ;rw[if_neg (by first|(simp at k42_3 c42;omega)|(simp at k42_3;omega)|(simp at c42;omega))])
        exact AB ⟨i+1⟩ (by dsimp only;omega) (by dsimp only;omega) ⟨J,J,J,J,J,J,J,J,J,J,J,J,trivial⟩ (.cons' 0 J (Bi e1) (.cons' 0 J (Bi e2) (.cons' 0 J (Bi fun x hx=>by rw[<-e4];exact e3 x hx) (Ay _)))))
    refine Ao<|An<|Aa<|Ak<|Zz [2]<|Az ?_;have hpe:Ed es pa he fs (Ae oi i)=p:=by rw[hp,hh]
    have e1:∀x,x<es.length->upd (fun e=>if e<i then(Ed es pa he fs (Ae oi e)).1 else 0) i p.1 x=if x<i+1 then(Ed es pa he fs (Ae oi x)).1 else 0:=by
     intro x hx;have:=Jt (m:=es.length) (i:=i) (F:=fun e=>(Ed es pa he fs (Ae oi e)).1) x hx;rw[hpe] at this;exact this
    have e2:∀x,x<es.length->upd (fun e=>if e<i then E3 (Ed es pa he fs (Ae oi e)) else 0) i (E3 p) x=if x<i+1 then E3 (Ed es pa he fs (Ae oi x)) else 0:=by
     intro x hx;have:=Jt (m:=es.length) (i:=i) (F:=fun e=>E3 (Ed es pa he fs (Ae oi e))) x hx;rw[hpe] at this;exact this
    have e3:∀x,x<es.length->upd (fun e=>if e<i then HJ (Ed es pa he fs (Ae oi e)) (Ae he (Aj es (Ae oi e))) else 0) i (HJ p (Ae he (Aj es h))) x=if x<i+1 then HJ (Ed es pa he fs (Ae oi x)) (Ae he (Aj es (Ae oi x))) else 0:=by
     intro x hx;have:=Jt (m:=es.length) (i:=i) (F:=fun e=>HJ (Ed es pa he fs (Ae oi e)) (Ae he (Aj es (Ae oi e)))) x hx;rw[hpe,<-hh] at this;exact this
    have hup:∀(f:Nat->Int) (a b:Int) x,upd (upd f i a) i b x=upd f i b x:=fun f a b x=>by unfold upd;split<;>rfl
    first
    | (have e4:HJ p (Ae he (Aj es h))=2*p.1+1:=(by unfold HJ;rw[if_pos (by simp at k42_3 c42;omega)])
       exact AB ⟨i+1⟩ (by dsimp only;omega) (by dsimp only;omega) ⟨J,J,J,J,J,J,J,J,J,J,J,J,trivial⟩ (.cons' 0 J (Bi e1) (.cons' 0 J (Bi e2) (.cons' 0 J (Bi fun x hx=>by rw[hup,<-e4];exact e3 x hx) (Ay _)))))
    | (have e4:HJ p (Ae he (Aj es h))=2*p.1:=(by unfold HJ;rw[if_neg (by first|(simp at k42_3 c42;omega)|(simp at k42_3;omega)|(simp at c42;omega))])
       exact AB ⟨i+1⟩ (by dsimp only;omega) (by dsimp only;omega) ⟨J,J,J,J,J,J,J,J,J,J,J,J,trivial⟩ (.cons' 0 J (Bi e1) (.cons' 0 J (Bi e2) (.cons' 0 J (Bi fun x hx=>by rw[<-e4];exact e3 x hx) (Ay _)))))
   refine Zz [4]<|Zx ?_;refine BN J<|Ao<|An<|Aa<|Ak ?_;refine Zz [2]<|Az ?_;have hpe:Ed es pa he fs (Ae oi i)=p:=by rw[hp,hh]
   have e1:∀x,x<es.length->upd (fun e=>if e<i then(Ed es pa he fs (Ae oi e)).1 else 0) i p.1 x=if x<i+1 then(Ed es pa he fs (Ae oi x)).1 else 0:=by
    intro x hx;have:=Jt (m:=es.length) (i:=i) (F:=fun e=>(Ed es pa he fs (Ae oi e)).1) x hx;rw[hpe] at this;exact this
   have e2:∀x,x<es.length->upd (fun e=>if e<i then E3 (Ed es pa he fs (Ae oi e)) else 0) i (E3 p) x=if x<i+1 then E3 (Ed es pa he fs (Ae oi x)) else 0:=by
    intro x hx;have:=Jt (m:=es.length) (i:=i) (F:=fun e=>E3 (Ed es pa he fs (Ae oi e))) x hx;rw[hpe] at this;exact this
   have e3:∀x,x<es.length->upd (fun e=>if e<i then HJ (Ed es pa he fs (Ae oi e)) (Ae he (Aj es (Ae oi e))) else 0) i (HJ p (Ae he (Aj es h))) x=if x<i+1 then HJ (Ed es pa he fs (Ae oi x)) (Ae he (Aj es (Ae oi x))) else 0:=by
    intro x hx;have:=Jt (m:=es.length) (i:=i) (F:=fun e=>HJ (Ed es pa he fs (Ae oi e)) (Ae he (Aj es (Ae oi e)))) x hx;rw[hpe,<-hh] at this;exact this
   have hup:∀(f:Nat->Int) (a b:Int) x,upd (upd f i a) i b x=upd f i b x:=fun f a b x=>by unfold upd;split<;>rfl
   first
   | (have e4:HJ p (Ae he (Aj es h))=2*p.1+1:=(by unfold HJ;rw[if_pos (by simp at k42_3 c42;omega)])
      exact AB ⟨i+1⟩ (by dsimp only;omega) (by dsimp only;omega) ⟨J,J,J,J,J,J,J,J,J,J,J,J,trivial⟩ (.cons' 0 J (Bi e1) (.cons' 0 J (Bi e2) (.cons' 0 J (Bi fun x hx=>by rw[hup,<-e4];exact e3 x hx) (Ay _)))))
   | (have e4:HJ p (Ae he (Aj es h))=2*p.1:=(by unfold HJ;rw[if_neg (by first|(simp at k42_3 c42;omega)|(simp at k42_3;omega)|(simp at c42;omega))])
      exact AB ⟨i+1⟩ (by dsimp only;omega) (by dsimp only;omega) ⟨J,J,J,J,J,J,J,J,J,J,J,J,trivial⟩ (.cons' 0 J (Bi e1) (.cons' 0 J (Bi e2) (.cons' 0 J (Bi fun x hx=>by rw[<-e4];exact e3 x hx) (Ay _)))))
  refine AN<|Ag<|Ag<|Aq ?_;have hie:i=es.length:=by simp at c29;omega
  subst hie;exact Be () trivial ⟨J,J,J,J,J,J,J,J,J,J,trivial⟩ (.cons' 0 J (Bi fun x hx=>by rw[if_pos hx]) (.cons' 1 J (Bi fun x hx=>by rw[if_pos hx]) (BC (BC (BC (BC (BC (BC (BC (BC (BC (BC (BC (BC (BC .nil)))))))))))))))
 intro _ _;obtain⟨lo,hlo⟩:∃lo,lo=BA es.length fun e=>(Ed es pa he fs (Ae oi e)).1:=⟨_,rfl⟩;obtain⟨nest,hnest⟩:∃nest,nest=BA es.length fun e=>HJ (Ed es pa he fs (Ae oi e)) (Ae he (Aj es (Ae oi e))):=⟨_,rfl⟩;rw[<-hlo,<-hnest];have hlol:lo.length=es.length:=by rw[hlo];simp
 have hnl:nest.length=es.length:=by rw[hnest];simp
 have hE:∀h,DS es (Ae oi) h->OP es (Ae pa) (Ae he) (Ae oi) h (Ae lo (h / 2)) (Ae nest (h / 2)):=fun h ho=>by
  have h0:=ho.1.1;have h1:=ho.1.2;rw[hlo,hnest,R3 (by omega) (by omega),R3 (by omega) (by omega),show(((h / 2).toNat:Nat):Int)=h / 2 by omega,ho.2];exact Y8 hF (fun v a b=>by have:=hW.hb v a b;unfold mx;omega) hfs ho
 have hoim:∀h,h∈oi↔DS es (Ae oi) h:=fun h=>by
  have a:=YC (h:=h) (x:=Aj es h) hF hoil;unfold oF at a;rw[A2Z (by omega),A1D] at a;simpa using a
 refine Zs<|Zz [1,0] ?_;refine Bk J J (AH en52 J J J (fun w' hw=>OX (hD.own hw).h3)) ?_;rintro _ _ ⟨gb2,rfl,rfl⟩;simp only[zs];refine Bk J J (AH en51 J J J (fun w' hw=>O6 (gb:=gb2) (v:=.slice A3 oi.length e3) (xs:=oi) (IH (Lc:=[]) hw fun w'' h''=>⟨B0 (K:=[]) J w'' h'',(hD.own h'').h3⟩) (by omega))) ?_;rintro vs _ ⟨ys,rfl,hys⟩;simp only[zs];refine Za<|Zx<|Zs ?_;have hyl:=hys.length_eq;have hyr:∀h,h∈ys->0<=h/\h / 2<nest.length/\0<=Ae nest (h / 2)/\Ae nest (h / 2)<=2*(n:Int)+1:=fun h hh=>by
  have ho:=(hoim h).1 (hys.mem_iff.1 hh);have h0:=ho.1.1;have h1:=ho.1.2;have:=OA hF hW.hn ho (hE h ho);omega
 refine Zm ?_;refine Zo (Fu J J J) ?_;refine Zz [1,0] ?_;refine Zo (Dz J J J (by omega)) ?_;refine Zp ?_;refine Bk J J (AH en53 J J J (fun w' hw=>SA (its:=ys) (nest:=nest) (gl:=g21) (u0:=Sv g155 es.length) (u1:=Sv g157 es.length) (u2:=Sv g159 es.length) (u3:=Sv g162 n) (IH (Lc:=[]) hw fun w'' h''=>⟨C7 h'' 0 J (by omega),h''.holds (AC g21 62 #[Sv g155 es.length,Sv g157 es.length,Sv g159 es.length,Sv g162 n]) (A1h (i:=5) J),DZ h'' J hnl (by omega)⟩) (by omega) (by omega) (by omega) hyr (hys.nodup_iff.2 (Wl hW)))) ?_;rintro _ _ ⟨gs,os,rfl,rfl,hol,hon,hom,hos⟩;simp only[zs];refine Zz [4]<|Zx<|Ai<|Zs ?_;refine Zz [3]<|Zx<|As ?_;have hosm:∀h,h∈os↔DS es (Ae oi) h:=fun h=>by rw[hom,hys.mem_iff,hoim]
 let cd:=Bf (Sv gs ys.length) 3 1 (AA os);refine DC.own (fun w hw=>Mp (t:=3) n (hw.pick (L':=[cd,AC g155 3 (AA lo).toArray,AC g162 37 (Ba (List.replicate n (Nv,[]))).toArray,AC g21 62 #[Sv g155 es.length,Sv g157 es.length,Sv g159 es.length,Sv g162 n],Jq D,AC g43 3 (AA (BA es.length fun e=>Aj es (Ae oi e))).toArray,AC g4 62 #[Nv,Nv,Nv,Nv]]) (Bg (CY (Et (Et (Et (Jp7 (Jp9 .nil))))))))) ?_;refine AS (ι:=LoI) (fun j=>j.i<=os.length/\j.rs.length=n/\∀(x:Nat) p,j.rs[x]? =some p->p.2=(os.take j.i).filter fun h=>decide (Aj es h=x)) (fun j=>[(4,Pv g4),(8,Sv g43 es.length),(21,Pv g21),(275,Sv gs ys.length),(276,Iv (ys.length:Nat)),(277,Iv (j.i:Nat))])
  (fun j=>[cd,AC g155 3 (AA lo).toArray,AC g162 37 (Ba j.rs).toArray,AC g21 62 #[Sv g155 es.length,Sv g157 es.length,Sv g159 es.length,Sv g162 n],Jq D,AC g43 3 (AA (BA es.length fun e=>Aj es (Ae oi e))).toArray,AC g4 62 #[Nv,Nv,Nv,Nv]]++AT 3 j.rs) (fun j=>os.length-j.i) ⟨0,List.replicate n (Nv,[])⟩ ⟨A1E _,by simp,fun x p hp=>by simp[A2h] at hp;simp[<-hp.2]⟩ ⟨J,J,J,J,J,J,trivial⟩ (Ay _) ?_;rintro⟨i,rs⟩ ⟨hi,hrl,hrs⟩;dsimp only at hi hrl hrs ⊢;simp only[zs];refine Zs<|Zc<|Zx<|Ai ?_;refine Zd ?_ ?_<;>intro c48
 .have hlt:i<os.length:=by simp at c48;omega
  obtain⟨h,hh⟩:∃h,os[i]? =some h:=⟨_,A1d hlt⟩;have hor:=(hosm h).1 (A1h hh);have hh0:=hor.1.1;have hh1:=hor.1.2;have hoe:Ae oi (h / 2)=h:=hor.2;obtain⟨⟨u0,u1⟩,_⟩:=hF.rng hor.1;obtain⟨pu,hpu⟩:∃p,rs[(Aj es h).toNat]? =some p:=⟨_,A1d (by omega)⟩;have eu:=hrs _ pu hpu;have lu:pu.2.length<=os.length:=by
   rw[eu];have:=A2J (fun x=>decide (Aj es x=((Aj es h).toNat:Nat))) (os.take i);simp at this ⊢;omega
  refine Ao<|Aa<|Ai<|As<|Zs ?_;refine Zj ((⟨gs,0,none⟩:Addr).add i) ?_;refine Zu (AG J J CA (Cv (i:=0) J hh (by omega))) ?_;refine Za<|Zx ?_;refine II (cl:=[.q,.q,.q,.q,.q,.q,.q,.q,.v,.q,.q,.q,.q,.v,.q,.v,.q,.n,.g,.q,.g]) (A:=[0,1,0,0,8,28,60,0,128,0,0,1024,3584,7680,16256,32640,0,65536,262016,524287,1048575]) (order:=[0,1,2,3,4,5,6,7,8,9,10,11,12,13,14,15,16,17,18,19,20]) ([AC g21 62 #[Sv g155 es.length,Sv g157 es.length,Sv g159 es.length,Sv g162 n],AC g43 3 (AA (BA es.length fun e=>Aj es (Ae oi e))).toArray]) mixed (by kernel_rfl) (PK (Et (LQ .nil))) ?_;refine Yz [1] ?_;refine BG J J J (AG J J Z0 (AK J)) ?_;refine Yz [2] ?_;refine Yo J (Gi J J J (by omega) (by omega)) ?_;refine Yj ⟨g43,(h / 2).toNat,none⟩ ?_;refine BG J J J (AG J J CA (AK (show _=some (Iv (Aj es h)) from by rw[BB (by omega),show(((h / 2).toNat:Nat):Int)=h / 2 by omega,hoe]))) ?_;refine Yz [1,2] ?_;refine Yo J (Gi J J J (by omega) (by omega)) ?_;refine Yj ⟨g43,(h / 2).toNat,none⟩ ?_;refine Yg ?_ (hh:=by exact(AK (show _=some (Iv (Aj es h)) from by rw[BB (by omega),show(((h / 2).toNat:Nat):Int)=h / 2 by omega,hoe])));refine Yj ⟨g162,(Aj es h).toNat,none⟩ ?_;refine Yh (AK (FM hpu)) ?_;refine Ym ?_;refine A8 J J J J (Eo (cs:=#[_]) J J A1x Bw C6 J (by decide) (by decide) J J) fun g298=>?_;let ce:=AC g162 37 (Ba rs).toArray;refine C5 (V:=AC g298 3 #[Iv h]::cd::AC g155 3 (AA lo).toArray::ce::AC g21 62 #[Sv g155 es.length,Sv g157 es.length,Sv g159 es.length,Sv g162 n]::Jq D::AC g43 3 (AA (BA es.length fun e=>Aj es (Ae oi e))).toArray::AC g4 62 #[Nv,Nv,Nv,Nv]::AT 3 rs) J J J J J (SP.shape (Bt (F:=[AC g298 3 #[Iv h],cd,AC g155 3 (AA lo).toArray,ce,AC g21 62 #[Sv g155 es.length,Sv g157 es.length,Sv g159 es.length,Sv g162 n],Jq D,AC g43 3 (AA (BA es.length fun e=>Aj es (Ae oi e))).toArray,AC g4 62 #[Nv,Nv,Nv,Nv]]++AT 3 (rs.eraseIdx (Aj es h).toNat)) (vs:=AA pu.2) (k:=1) (news:=[Iv h]) J J J A1x Bw Fz C6 J (by decide) (by decide)
   (fun w hw=>hw.perm (Iq hpu _).symm) (.inl ⟨_,_,rfl,AW rfl⟩) rfl (by intro u hu;simp at hu;subst hu;rfl) (by rw[ints_length];omega))) (fun v L' hC w hw=>by obtain⟨_,rfl⟩:=hC;exact hw.pick (Xn (W6 .nil))) ?_;rintro _ _ ⟨⟨A299,l299,c299,rfl⟩,rfl⟩;simp only[zs];refine Yj ⟨g162,(Aj es h).toNat,none⟩ ?_;refine AO J J J J (AP (cs':=(Ba (rs.set (Aj es h).toNat (.slice A299 l299 c299,pu.2++[h]))).toArray) J J J ET J (by simp;omega) (Ko rs _ (.slice A299 l299 c299,pu.2++[h]))) (PK (Xn (W6 .nil))) ?_;refine AF J ?_;simp only[zq,zr];refine Dl.own (M:=[cd,AC g155 3 (AA lo).toArray,AC g162 37 (Ba (rs.set (Aj es h).toNat (.slice A299 l299 c299,pu.2++[h]))).toArray,AC g21 62 #[Sv g155 es.length,Sv g157 es.length,Sv g159 es.length,Sv g162 n],Jq D,AC g43 3 (AA (BA es.length fun e=>Aj es (Ae oi e))).toArray,AC g4 62 #[Nv,Nv,Nv,Nv]]++AT 3 (rs.set (Aj es h).toNat (.slice A299 l299 c299,pu.2++[h]))) (fun w hw=>?_) ?_
  .refine(?_:AR _ _ w (Bf (.slice A299 l299 c299) 3 1 (AA (pu.2++[h]))::([_,_,_,_,_,_,_]++AT 3 (rs.eraseIdx (Aj es h).toNat)))).perm (Ma (.slice A299 l299 c299,pu.2++[h]) (by omega) _).symm;have h4:=(hw.pick (BC (Ay _))).sub (A1k ..);exact h4.pick (.cons' 0 J (by rw[BW];rfl) (Ay _))
  refine An<|Aa<|Ak<|Zz [2]<|Az ?_;refine AB ⟨i+1,rs.set (Aj es h).toNat (.slice A299 l299 c299,pu.2++[h])⟩ (by dsimp only;omega) ⟨by dsimp only;omega,by simp[hrl],fun x p hp=>?_⟩ ⟨J,J,J,J,J,J,trivial⟩ (Ay _);dsimp only at hp ⊢;rw[A1W,hh,A2U];by_cases c:(Aj es h).toNat=x
  .subst c;rw[A2A (by omega)] at hp;cases hp;dsimp only;rw[eu];have e2:((some h).toList).filter (fun x=>decide (Aj es x=(((Aj es h).toNat:Nat):Int)))=[h]:=by
    show List.filter _ [h]=[h];exact T7 (decide_eq_true (by omega))
   rw[e2]
  rw[A2E c] at hp;rw[hrs x p hp];have:¬Aj es h=(x:Int):=by omega
  simp[this]
 refine AN<|Ag<|Ag<|Aq<|Aa<|Zs ?_;refine CR [_,_,_,_] ?_;refine Zq #[_,_,_,_] ?_;refine Za<|Zx<|At ?_;refine OO (.inl J) ?_;refine Dl.own (PK (LQ (Ay _))) ?_;simp only[A2Q,A3C];refine Ni ?_;refine Nj ?_;refine W9 (cs:=#[_,_,_,_]) J J J ag62 sz62 ⟨_,fun w hw=>hw.sub (.cons _ (.cons_cons _ (.cons_cons _ (.cons _ (.cons _ (.cons _ (List.Sublist.refl _))))))),?_⟩;have hie:i=os.length:=by simp at c48;omega
 subst hie;simp only[A1T] at hrs;refine⟨g155,g157,g159,g162,lo,rs,J,J,hlol,hrl,fun p hp=>?_,?_⟩
 .obtain⟨x,hx⟩:=A1j.1 hp;rw[hrs x p hx];have:=A2J (fun h=>decide (Aj es h=(x:Int))) os;omega
 refine low_ok hF hE hosm hon hos fun v v0 v1=>?_;obtain⟨p,hp⟩:∃p,rs[v.toNat]? =some p:=⟨_,A1d (by omega)⟩;rw[A1U,hp];simp only[A3M,A2B];rw[hrs _ p hp,show((v.toNat:Nat):Int)=v by omega]
end
def Uw(N:Int)(es:List Pr)(b:Bool):Prop:=
 (b=true->∃pa he oi,CD es pa he oi N/\∃s,VM es pa he oi s)/\(b=false->(3<=N/\3*N<es.length+6)\/∃pa he oi,CD es pa he oi N/\¬∃s,VM es pa he oi s)
theorem lsp_own{w0 w:World}{K:List Nat}{g t t' N:Nat}{rs:RL}{F:List Chunk}(hw:AR w0 K w (F++AT t rs))(hb:AC g t' (Ba rs).toArray∈F)(hN:rs.length=N)(hn:N<=17592186044416)(hf:∀p,p∈rs->p.2.length<=17592186044416):
  LsP w (Sv g N) (rs.map Prod.fst) (rs.map Prod.snd):=by
 have hg:=hw.holds _ (A2w _ hb);refine⟨some ⟨g,0,none⟩,N,by rw[A1S,hN],by simp,fun i lv l hi hl=>?_,by simp[hN],by omega,by simp[hN,hn]⟩;rw[A1U,A2o] at hi hl;obtain⟨p,hp,rfl⟩:=hi;obtain⟨p',hp',rfl⟩:=hl;rw[hp] at hp';cases hp';exact⟨⟨_,J,by rw[AX];exact EI hg (FM hp)⟩,HT hw hp (hf p (A1h hp))⟩
theorem W2{B U:Int->Prop}{ref:Int->Int}{m:Int}(h:∀x,ref x= -1):HM B U ref m:=⟨fun x _ _=>⟨x,.refl,h x⟩,fun y=>.inl (h y),fun y hy=>absurd (h y) hy⟩
theorem fI_tab1{m:Nat}{x:Int}:fI (BA m fun _=> -1) x= -1:=by
 unfold fI;split
 .by_cases c:x.toNat<m
  .rw[C3 _ c];rfl
  rw[A1u (by simp;omega)];rfl
 rfl
theorem Old.more{es:List Pr}{pa:Int->Int}{r r' b:Int}(h:Old es pa r b)(hr:r<=r'):Old es pa r' b:=by
 obtain⟨q,h1,h2,h3⟩:=h;exact⟨q,h1,by omega,h3⟩
theorem U0.more{es:List Pr}{pa oi:Int->Int}{r r' x:Int}(h:U0 es pa oi r x)(hr:r<=r'):U0 es pa oi r' x:=h.imp id fun g=>g.more hr
structure TeJ where
 i:Nat
 s:TS
section
variable{w:World}{N:Int}{es:List Pr}{va:Value}
set_option maxHeartbeats 1000000 in
theorem S8(hg:DX w va es)(hG:EM w):
  Calls A1c 12 #[.agg #[Iv N,va]] w (Ret w [] fun r M=>∃v b e,r= .tuple #[v,.bool b,Iv e]/\M=[]/\((¬BX N es/\e=1)\/(BX N es/\e=0/\Uw N es b))):=by
 have hg':=hg;obtain⟨A,cap,rfl,hr,hlc,hcm,hlE⟩:=hg;refine cO Tryz.func12 Tryz.ntmps12<|Zs ?_;refine Zw (HE (cs:=#[Iv N,.slice A es.length cap]) J J J) fun g1=>?_;refine Zz [3]<|Zx<|Zs ?_;refine CR [_,_] ?_;refine Bk J J (AH en22 J J J (fun w' hw=>Uo N es _ w' (hg'.keep0 hw))) ?_;rintro v14 L14 hC14;obtain⟨v0,v1,v2,v3,e,rfl,hC⟩:∃v0 v1 v2 v3 e,v14= .tuple #[.agg #[v0,v1,v2,v3],Iv e]/\((¬BX N es/\L14=[]/\e=1/\v0= Nv/\v1= Nv/\v2= Nv/\v3= Nv)\/
   (BX N es/\e=0/\∃s,Qu es N 0 (start N es.length) s/\Inv N es.length (es.length+N.toNat) s/\L14=forL v0 v1 v2 v3 s.pa s.he s.od s.oi)):=by
  rcases hC14 with⟨h1,h2,h3⟩|⟨h1,s,v0,v1,v2,v3,h2,h3,h4,h5⟩
  .exact⟨_,_,_,_,_,h3,.inl ⟨h1,h2,J,J,J,J,J⟩⟩
  exact⟨_,_,_,_,_,h4,.inr ⟨h1,J,s,h2,h3,h5⟩⟩
 clear hC14;refine CN.know (φ:=∃A0 l0 q0 A1 l1 q1 A2 l2 q2 A3 l3 q3,v0= .slice A0 l0 q0/\v1= .slice A1 l1 q1/\v2= .slice A2 l2 q2/\v3= .slice A3 l3 q3) (fun w hw=>?_) ?_
 .rcases hC with⟨_,rfl,_,rfl,rfl,rfl,rfl⟩|⟨_,_,s,_,_,rfl⟩
  .exact⟨_,_,_,_,_,_,_,_,_,_,_,_,J,J,J,J⟩
  obtain⟨A0,l0,q0,e0⟩:=FN (hw.pick (Bg .nil));obtain⟨A1,l1,q1,e1⟩:=FN (hw.pick (BC .nil));obtain⟨A2,l2,q2,e2⟩:=FN (hw.pick (CY .nil));obtain⟨A3,l3,q3,e3⟩:=FN (hw.pick (Et .nil));exact⟨_,_,_,_,_,_,_,_,_,_,_,_,e0,e1,e2,e3⟩
 rintro⟨A0,l0,q0,A1,l1,q1,A2,l2,q2,A3,l3,q3,rfl,rfl,rfl,rfl⟩;refine Zz [3] ?_;refine ZA ze58 fun g5=>?_;refine Zq #[_,_,_,_] ?_;refine Za<|Zx<|Ai<|Zs ?_;refine Zz [2]<|Zx ?_;refine Zd ?_ ?_<;>intro c2
 .rcases hC with⟨hV,rfl,rfl,_⟩|⟨_,rfl,_⟩;rotate_left 1
  .simp at c2
  refine Zs<|Zz [4]<|Zx<|At<|Ad ?_;refine UB 2 3 4 ?_;refine Cw (.inl J) J J J J ?_;exact⟨_,_,_,J,J,.inl ⟨hV,J⟩⟩
 rcases hC with⟨_,rfl,rfl,_⟩|⟨hV,rfl,sw,hR,hI,rfl⟩
 .simp at c2
 have hN0:=hV.lo;have hN1:=hV.hi;have hfew:=hV.few;obtain⟨n,rfl⟩:=A1n hN0;have hI':Inv (n:Int) es.length (es.length+n) sw:=by simpa using hI
 have hWk:=Xw hV hI' hR;have hval:=SY hV hI' hR;have hF:=hWk.frs;have hpal:=hWk.pal;have hhel:=hWk.hel;have hodl:=hWk.odl;have hoil:=hWk.oil;have hn1:n<=1048576:=by omega
 let ca:=AC g1 24 #[Iv (n:Nat),.slice A es.length cap];refine DC.own (M:=[Bf (.slice A0 l0 q0) 3 1 (AA sw.pa),Bf (.slice A1 l1 q1) 3 1 (AA sw.he),Bf (.slice A2 l2 q2) 3 1 (AA sw.od),Bf (.slice A3 l3 q3) 3 1 (AA sw.oi),AC g5 58 #[.slice A0 l0 q0,.slice A1 l1 q1,.slice A2 l2 q2,.slice A3 l3 q3],ca]) (PK (BC (BC (BC (BC (Ay _)))))) ?_;refine GU 0 J (by omega) ?_;rintro⟨_,_,hs0⟩;cases hs0;refine GU 1 J (by omega) ?_;rintro⟨_,_,hs1⟩;cases hs1;refine GU 2 J (by omega) ?_;rintro⟨_,_,hs2⟩;cases hs2;refine GU 3 J (by omega) ?_;rintro⟨_,_,hs3⟩;cases hs3;refine Ao<|Aa ?_;let cb:=Bf (.slice A0 sw.pa.length q0) 3 1 (AA sw.pa);let cc:=Bf (.slice A1 sw.he.length q1) 3 1 (AA sw.he);let cd:=Bf (.slice A2 sw.od.length q2) 3 1 (AA sw.od);let ce:=Bf (.slice A3 sw.oi.length q3) 3 1 (AA sw.oi);let cf:=AC g5 58 #[.slice A0 sw.pa.length q0,.slice A1 sw.he.length q1,.slice A2 sw.od.length q2,.slice A3 sw.oi.length q3];refine DC.cut (ι:=Unit) (fun _=>True) (fun _=>[(1,Pv g1),(5,Pv g5)]) (fun _=>[cb,cc,cd,ce,cf,ca]) ?first5 ?rest5
 case first5=>
  refine Zs<|Zz [1,2] ?_;refine AM 23 J (fun k4_3=>?_) (fun k4_3=>?_)
  .refine Zz [1,2,0] ?_;refine Zo (Dz J J J (by omega)) ?_;refine Zz [3]<|Zx ?_;refine Zd ?_ ?_<;>intro c4
   .refine Zs<|Zz [3]<|Zx<|At<|Ad ?_;refine UB 2 3 4 ?_;refine Cw (.inl J) J J J J ?_;refine⟨_,_,_,J,J,.inr ⟨hV,J,fun h=>absurd h (by simp),fun _=>.inl ?_⟩⟩;simp at k4_3 c4;omega
   refine Ao ?_;exact Be () trivial ⟨J,J,trivial⟩ (Ay _)
  refine Zz [9]<|Zx ?_;refine BN J<|Ao ?_;exact Be () trivial ⟨J,J,trivial⟩ (Ay _)
 intro _ _;refine Zs ?_;refine CR [_,_] ?_;refine CR [_,_,_,_] ?_;refine Bk J J (AH en23 J J J (fun w' hw=>RG (pa:=sw.pa) (he:=sw.he) (od:=sw.od) (oi:=sw.oi) hWk hval (IH (Lc:=[]) hw fun w'' h''=>⟨hg'.keep0 h'',C7 h'' 0 J (by omega),C7 h'' 1 J (by omega),C7 h'' 2 J (by omega),C7 h'' 3 J (by omega)⟩))) ?_;rintro _ _ ⟨ga,gx,gy,gb,lo,rs,rfl,rfl,hlol,hrl,hrow,hL⟩;refine CN.own (M:=[AC ga 3 (AA lo).toArray,AC gb 37 (Ba rs).toArray,cb,cc,cd,ce,cf,ca]++AT 3 rs) (fun w hw=>hw.perm (List.Perm.cons _ (List.Perm.cons _ A1v))) ?_;simp only[zs];refine Zz [3] ?_;refine ZA ze62 fun g7=>?_;refine Zq #[_,_,_,_] ?_;refine Za<|Zx<|Ai<|Zs ?_;refine Zz [2]<|Zx ?_;refine Zd ?_ ?_<;>intro c7
 .exact absurd c7 (by decide)
 refine Ao<|Aa<|Zs<|Zz [1,2]<|Zx<|Ai ?_;refine Fw 2020202020111 [0,1,2,3,5,7,9,4,6,8,10,11,12,13] [] PN ?_;refine Bp J J J J (A4 (vs:=[_,_]) J J IL G2 J (AW J)) ?_;refine Bp J J J J (A4 (vs:=[_,_,_,_]) J J ag58 XF J (AW J)) ?_;refine Bp J J J J (A4 (vs:=[_,_,_,_]) J J ag62 sz62 J (AW J)) ?_;refine Yz [4] ?_;refine A8 J J J J (B6 (k:=es.length) J J J A1x Bw Fz C6 J (by omega) (by omega) (BS _)) fun g49=>?_;refine A8 J J J J (B6 (k:=es.length) J J J A1x Bw Fz C6 J (by omega) (by omega) (BS _)) fun g51=>?_;refine A8 J J J J (B6 (k:=es.length) J J J A1x Bw Fz C6 J (by omega) (by omega) (BS _)) fun g53=>?_;refine A8 J J J J (B6 (k:=es.length) J J J A1x Bw Fz C6 J (by omega) (by omega) (BS _)) fun g55=>?_;refine Yo J (Dy (cs:=#[_,_,_,_,_,_,_,_,_,_,_,_,_,_,_]) J J bs68 J J) ?_;refine A8 J J J J (HE (cs:=#[Iv (n:Nat),.slice A es.length cap,.slice A0 sw.pa.length q0,.slice A1 sw.he.length q1,.slice A2 sw.od.length q2,.slice A3 sw.oi.length q3,Sv ga es.length,Sv gx es.length,Sv gy es.length,Sv gb n,Nv,Sv g49 es.length,Sv g51 es.length,Sv g53 es.length,Sv g55 es.length]) J J J) fun g57=>?_;refine Yz [1] ?_;refine AF J ?_;simp only[zq,zr];refine Aa<|Ai<|Zs<|Zz [2]<|Zx<|As ?_;refine DC.own (fun w hw=>(hw.pick (Xn (Ay _))).sub (A1k ..)) ?_;refine AS (ι:=Nat) (fun i=>i<=es.length) (fun i=>[(1,Pv g1),(5,Pv g5),(9,Pv g57),(58,Iv (es.length:Nat)),(59,Iv (i:Nat))])
  (fun i=>AC g57 68 #[Iv (n:Nat),.slice A es.length cap,.slice A0 sw.pa.length q0,.slice A1 sw.he.length q1,.slice A2 sw.od.length q2,.slice A3 sw.oi.length q3,Sv ga es.length,Sv gx es.length,Sv gy es.length,Sv gb n,Nv,Sv g49 es.length,Sv g51 es.length,Sv g53 es.length,Sv g55 es.length]::AC g49 3 (AA (BA es.length fun e=>if e<i then -1 else 0)).toArray::AC g51 3 (AA (BA es.length fun e=>if e<i then 1 else 0)).toArray::AC g53 3 (AA (BA es.length fun _=>0)).toArray::AC g55 3 (AA (BA es.length fun e=>if e<i then -1 else 0)).toArray::([AC ga 3 (AA lo).toArray,AC gb 37 (Ba rs).toArray,cb,cc,cd,ce,cf,ca]++AT 3 rs)) (fun i=>es.length-i) 0 (A1E _) ⟨J,J,J,J,J,trivial⟩ (Bg (.cons' 3 J (Bi fun x _=>by simp) (.cons' 2 J (Bi fun x _=>by simp) (.cons' 1 J (Bi fun x _=>by simp) (.cons' 0 J (Bi fun x _=>by simp) (Ay _)))))) ?_;intro i hi;simp only[zs];refine Zs<|Zc<|Zx<|Ai ?_;refine Zd ?_ ?_<;>intro c12
 .have hlt:i<es.length:=by simpa using c12
  refine Ao<|Aa<|Ai<|As<|Zs<|Zz [2]<|Zx ?_;refine Fv 303030010000100001000 21 ?_;refine Yz [3,4,4,1] ?_;refine Yi (ad':=⟨g49,i,none⟩) A1x Bw ?_ (he:=by rw[AX];rfl);refine AO J J J J (AP (cs':=(AA (BA es.length (upd (fun e=>if e<i then -1 else 0) i (-1)))).toArray) J J J Bw J (by simp;omega) BU) PN ?_;refine Yi (ad':=⟨g51,i,none⟩) A1x Bw ?_ (he:=by rw[AX];rfl);refine AO J J J J (AP (cs':=(AA (BA es.length (upd (fun e=>if e<i then 1 else 0) i 1))).toArray) J J J Bw J (by simp;omega) BU) PN ?_;refine Yi (ad':=⟨g55,i,none⟩) A1x Bw ?_ (he:=by rw[AX];rfl);refine AO J J J J (AP (cs':=(AA (BA es.length (upd (fun e=>if e<i then -1 else 0) i (-1)))).toArray) J J J Bw J (by simp;omega) BU) PN ?_;refine AF J ?_;simp only[zq,zr];refine An<|Aa<|Ak<|Zz [2]<|Az ?_;exact AB (i+1) (by omega) (by omega) ⟨J,J,J,J,J,trivial⟩ (Bg (.cons' 0 J (Bi (Jt (F:=fun _=> -1))) (.cons' 0 J (Bi (Jt (F:=fun _=>1))) (Bg (.cons' 0 J (Bi (Jt (F:=fun _=> -1))) (Ay _))))))
 refine AN<|Ag<|Ag<|Aq<|Aa<|Ai<|Zs<|Zz [1,1]<|Zx<|As ?_;have hie:i=es.length:=by simp at c12;omega
 subst hie;have hLN:LnT (⟨g57,g49,g51,g53,g55,es.length,(n:Nat),.slice A es.length cap,.slice A0 sw.pa.length q0,.slice A1 sw.he.length q1,.slice A2 sw.od.length q2,.slice A3 sw.oi.length q3,Sv ga es.length,Sv gx es.length,Sv gy es.length,Sv gb n,rs.map Prod.fst⟩:TC) es sw.pa sw.he sw.oi lo (rs.map Prod.snd):=⟨rfl,hfew,by show(0:Int)<=(n:Nat);omega,hN1,by show(sw.pa.length:Int)=(n:Nat);omega,by show(sw.he.length:Int)=(n:Nat);omega,hoil,hlol,by show((rs.map Prod.snd).length:Int)=(n:Nat);rw[A1S];omega⟩;have hDt:∀w'',AR w [] w'' ([AC ga 3 (AA lo).toArray,AC gb 37 (Ba rs).toArray,cb,cc,cd,ce,cf,ca]++AT 3 rs)->DtV (⟨g57,g49,g51,g53,g55,es.length,(n:Nat),.slice A es.length cap,.slice A0 sw.pa.length q0,.slice A1 sw.he.length q1,.slice A2 sw.od.length q2,.slice A3 sw.oi.length q3,Sv ga es.length,Sv gx es.length,Sv gy es.length,Sv gb n,rs.map Prod.fst⟩:TC) es sw.pa sw.he sw.oi lo (rs.map Prod.snd) w'':=fun w'' h''=>
  ⟨hg'.keep0 h'',C7 h'' 2 rfl (by omega),C7 h'' 3 rfl (by omega),C7 h'' 5 rfl (by omega),DZ (g:=ga) (h''.pick (L':=[AC ga 3 (AA lo).toArray]) (Bg .nil)) rfl hlol (by omega),lsp_own (F:=[AC ga 3 (AA lo).toArray,AC gb 37 (Ba rs).toArray,cb,cc,cd,ce,cf,ca]) h'' (A1h (i:=1) rfl) hrl (by omega) (fun p hp=>by have:=hrow p hp;omega),
   hG.keep0 h''⟩;have hH:∀v:Int,0<=v->v<(n:Int)->Ae sw.he v<(es.length:Int)+1:=fun v a b=>by have:=hWk.hb v a b;omega
 have ht1:(BA es.length fun e=>if e<es.length then(-1:Int) else 0)=BA es.length fun _=> -1:=DE fun x hx=>by rw[if_pos hx]
 have ht2:(BA es.length fun e=>if e<es.length then(1:Int) else 0)=BA es.length fun _=>1:=DE fun x hx=>by rw[if_pos hx]
 rw[ht1,ht2];refine A0h 7 J ?_;intro hA0;refine DC.own (fun w hw=>Ck (t:=136) (m:=4) hw) ?_;refine AS (ι:=TeJ) (fun j=>j.i<=n/\LnS (⟨g57,g49,g51,g53,g55,es.length,(n:Nat),.slice A es.length cap,.slice A0 sw.pa.length q0,.slice A1 sw.he.length q1,.slice A2 sw.od.length q2,.slice A3 sw.oi.length q3,Sv ga es.length,Sv gx es.length,Sv gy es.length,Sv gb n,rs.map Prod.fst⟩:TC) j.s/\j.s.st=[]/\HM (FL es (Ae sw.pa) (Ae sw.oi)) (U0 es (Ae sw.pa) (Ae sw.oi) j.i) (fI j.s.ref) es.length/\∀r:Int,0<=r->r<j.i->Ae sw.pa r<0->∃P,Gx es (Ae sw.pa) (Ae sw.he) (Ae sw.oi) n (DT (rs.map Prod.snd) r) P)
  (fun j=>[(1,Pv g1),(5,Pv g5),(9,Pv g57),(82,Iv (n:Nat)),(83,Iv (j.i:Nat))])
  (fun j=>TL (⟨g57,g49,g51,g53,g55,es.length,(n:Nat),.slice A es.length cap,.slice A0 sw.pa.length q0,.slice A1 sw.he.length q1,.slice A2 sw.od.length q2,.slice A3 sw.oi.length q3,Sv ga es.length,Sv gx es.length,Sv gy es.length,Sv gb n,rs.map Prod.fst⟩:TC) j.s++([AC ga 3 (AA lo).toArray,AC gb 37 (Ba rs).toArray,cb,cc,cd,ce,cf,ca]++AT 3 rs)) (fun j=>n-j.i) ⟨0,⟨Nv,[],BA es.length fun _=> -1,BA es.length fun _=>1,BA es.length fun _=>0,BA es.length fun _=> -1⟩⟩
  ⟨A1E _,⟨by simp,by simp,by simp,by simp,fun x hx=>by simp[BA] at hx;exact .inl hx.2.symm⟩,rfl,W2 fun x=>fI_tab1,fun r a b=>by dsimp only at b;omega⟩ ⟨rfl,rfl,rfl,rfl,rfl,trivial⟩ (BC (Bg (Ay _))) ?_;rintro⟨i,s⟩ ⟨hi,hs,hst,hA,hSeg⟩;dsimp only at hi hs hst hA hSeg ⊢;simp only[TL,A1K,A1N];refine Zs<|Zc<|Zx<|Ai ?_;refine Zd ?_ ?_<;>intro c17
 .have hlt:i<n:=by simpa using c17
  obtain⟨ad0,hA0'⟩:=hA0 (by omega);have hci:sw.pa[i]? =some (Ae sw.pa i):=CC (by omega);refine Ao<|Aa<|Ai<|As<|Zs<|Zz [2]<|Zx<|Zs ?_;refine Zz [1,1] ?_;refine Zo (B4 (ad:=ad0) (ad':=ad0.add i) J (show ev _ _ _=some (.slice (some ad0) sw.pa.length q0) from by rw[<-hA0'];rfl) J A1x Bw (by omega) (by omega) J) ?_;refine Zu (AG J J CA (Cv (i:=8) (by rw[<-hA0'];rfl) hci (by omega))) ?_;refine Zz [2] ?_;refine AM 92 J (fun k19_6=>?_) (fun k19_6=>?_)
  .refine Zz [2] ?_;refine AU J J (BT en24 J J J (Lc:=TL (⟨g57,g49,g51,g53,g55,es.length,(n:Nat),.slice A es.length cap,.slice A0 sw.pa.length q0,.slice A1 sw.he.length q1,.slice A2 sw.od.length q2,.slice A3 sw.oi.length q3,Sv ga es.length,Sv gx es.length,Sv gy es.length,Sv gb n,rs.map Prod.fst⟩:TC) s) (F:=[AC ga 3 (AA lo).toArray,AC gb 37 (Ba rs).toArray,cb,cc,cd,ce,cf,ca]++AT 3 rs) (.refl _) (fun _ h=>h) (fun w hw=>OT (Hm:=(es.length:Int)+1) (es:=es) (pa:=sw.pa) (he:=sw.he) (oi:=sw.oi) (lo:=lo) (out:=rs.map Prod.snd) (hw.sub (A1J (TL (⟨g57,g49,g51,g53,g55,es.length,(n:Nat),.slice A es.length cap,.slice A0 sw.pa.length q0,.slice A1 sw.he.length q1,.slice A2 sw.od.length q2,.slice A3 sw.oi.length q3,Sv ga es.length,Sv gx es.length,Sv gy es.length,Sv gb n,rs.map Prod.fst⟩:TC) s) _)).self (IH (Lc:=TL (⟨g57,g49,g51,g53,g55,es.length,(n:Nat),.slice A es.length cap,.slice A0 sw.pa.length q0,.slice A1 sw.he.length q1,.slice A2 sw.od.length q2,.slice A3 sw.oi.length q3,Sv ga es.length,Sv gx es.length,Sv gy es.length,Sv gb n,rs.map Prod.fst⟩:TC) s) hw hDt) hLN hs hF hL hH (by omega) (by show(i:Int)<(n:Nat);omega) (by simpa using k19_6) hst hA)) ?_;rintro _ _ ⟨_,⟨ok,s',rfl,rfl,hs',q1,q2⟩,rfl⟩;simp only[TL,A1K,A1N];refine Zz [2]<|Zx ?_;refine Zd ?_ ?_<;>intro c19
   .refine Zs<|Zz [3]<|Zx<|At<|Am<|Ad<|Ad<|Am<|Ad ?_;refine UB 2 3 4 ?_;refine Cw (.inl J) J J J J ?_;exact⟨_,_,_,J,J,.inr ⟨hV,J,fun h=>absurd h (by simp),fun _=>.inr ⟨_,_,_,hF,q2 (by simpa using c19)⟩⟩⟩
   refine Ao<|An<|Aa<|Ak<|Zz [2]<|Az ?_;obtain⟨p1,p2,p3⟩:=q1 (by simpa using c19);refine AB ⟨i+1,s'⟩ (by dsimp only;omega) ⟨by dsimp only;omega,hs',p1,p3,fun r a b hr=>?_⟩ ⟨J,J,J,J,J,trivial⟩ (Ay _);by_cases c:r=i
   .rw[c];exact p2
   exact hSeg r a (by dsimp only at b;omega) hr
  refine Zz [5]<|Zx ?_;refine BN J<|Ao<|An<|Aa<|Ak ?_;refine Zz [2]<|Az ?_;refine AB ⟨i+1,s⟩ (by dsimp only;omega) ⟨by dsimp only;omega,hs,hst,hA.mono fun x hx=>hx.more (by dsimp only;omega),fun r a b hr=>?_⟩ ⟨J,J,J,J,J,trivial⟩ (Ay _);by_cases c:r=i
  .subst c;simp at k19_6;omega
  exact hSeg r a (by dsimp only at b;omega) hr
 refine AN<|Ag<|Ag<|Aq<|Aa<|Zs<|Zm ?_;refine AU J J (BT en25 J J J (Lc:=TL (⟨g57,g49,g51,g53,g55,es.length,(n:Nat),.slice A es.length cap,.slice A0 sw.pa.length q0,.slice A1 sw.he.length q1,.slice A2 sw.od.length q2,.slice A3 sw.oi.length q3,Sv ga es.length,Sv gx es.length,Sv gy es.length,Sv gb n,rs.map Prod.fst⟩:TC) s) (F:=[AC ga 3 (AA lo).toArray,AC gb 37 (Ba rs).toArray,cb,cc,cd,ce,cf,ca]++AT 3 rs) (.refl _) (fun _ h=>h) (fun w hw=>Nq (es:=es) (pa:=sw.pa) (he:=sw.he) (oi:=sw.oi) (lo:=lo) (out:=rs.map Prod.snd) (hw.sub (A1J (TL (⟨g57,g49,g51,g53,g55,es.length,(n:Nat),.slice A es.length cap,.slice A0 sw.pa.length q0,.slice A1 sw.he.length q1,.slice A2 sw.od.length q2,.slice A3 sw.oi.length q3,Sv ga es.length,Sv gx es.length,Sv gy es.length,Sv gb n,rs.map Prod.fst⟩:TC) s) _)).self (IH (Lc:=TL (⟨g57,g49,g51,g53,g55,es.length,(n:Nat),.slice A es.length cap,.slice A0 sw.pa.length q0,.slice A1 sw.he.length q1,.slice A2 sw.od.length q2,.slice A3 sw.oi.length q3,Sv ga es.length,Sv gx es.length,Sv gy es.length,Sv gb n,rs.map Prod.fst⟩:TC) s) hw hDt) hLN hs hF hA.refok)) ?_;rintro _ _ ⟨_,⟨v',s',rfl,rfl⟩,rfl⟩;refine Zz [3]<|Zx<|At ?_;refine UB 2 3 4 ?_;refine Cw (.inl J) J J J J ?_;have hin:i=n:=by simp at c17;omega
 subst hin;exact⟨_,_,_,J,J,.inr ⟨hV,J,fun _=>⟨_,_,_,hF,lr_yes hF hL (fun r a b hr=>hSeg r a b hr)⟩,fun h=>absurd h (by simp)⟩⟩
theorem Pn(hg:DX w va es)(hG:EM w):
  Calls A1c 8 #[.agg #[Iv N,va]] w (Ret w [] fun r M=>∃b e,r= .tuple #[.bool b,Iv e]/\M=[]/\((¬BX N es/\e=1)\/(BX N es/\e=0/\Uw N es b))):=by
 have hg':=hg;obtain⟨A,cap,rfl,hr,hlc,hcm,hlE⟩:=hg;refine cO Tryz.func8 Tryz.ntmps8<|Zs ?_;refine Zw (HE (cs:=#[Iv N,.slice A es.length cap]) J J J) fun g1=>?_;refine Zz [2]<|Zx<|Zs ?_;refine CR [_,_] ?_;refine Bk J J (AH en12 J J J (fun w' hw=>S8 (hg'.keep0 hw) (hG.keep0 hw))) ?_;rintro _ _ ⟨v,b,e,rfl,rfl,hC⟩;refine Zz [7]<|Zx<|Zs ?_;refine Zz [4]<|Zx<|At ?_;refine Lm 2 3 ?_;refine Bq (.inl J) J J J ?_;exact⟨_,_,J,J,hC⟩
end
section
open Classical
structure Eqv (R:Nat->Nat->Prop):Prop where
 refl:∀a,R a a
 symm:∀{a b},R a b->R b a
 trans:∀{a b c},R a b->R b c->R a c
def adr(R:Nat->Nat->Prop)(u v a b:Nat):Prop:=R a b\/(R a u/\R v b)\/(R a v/\R u b)
def Kb(R:Nat->Nat->Prop):List (Nat×Nat)->Nat->Nat->Prop
 | []=>R
 | p::P=>adr (Kb R P) p.1 p.2
noncomputable def Ry(n:Nat)(R:Nat->Nat->Prop):Nat:=(List.range n).countP fun v=>decide (∀y,y<v->¬R y v)
section
variable{R S:Nat->Nat->Prop}{n u v:Nat}
theorem VD(hR:Eqv R)(u v:Nat):Eqv (adr R u v):=by
 refine⟨fun a=>.inl (hR.refl a),fun{a b} h=>?_,fun{a b c} h k=>?_⟩
 .rcases h with h|⟨h1,h2⟩|⟨h1,h2⟩
  .exact .inl (hR.symm h)
  .exact .inr (.inr ⟨hR.symm h2,hR.symm h1⟩)
  exact .inr (.inl ⟨hR.symm h2,hR.symm h1⟩)
 rcases h with h|⟨h1,h2⟩|⟨h1,h2⟩<;>rcases k with k|⟨k1,k2⟩|⟨k1,k2⟩
 .exact .inl (hR.trans h k)
 .exact .inr (.inl ⟨hR.trans h k1,k2⟩)
 .exact .inr (.inr ⟨hR.trans h k1,k2⟩)
 .exact .inr (.inl ⟨h1,hR.trans h2 k⟩)
 .exact .inr (.inl ⟨h1,k2⟩)
 .exact .inl (hR.trans h1 k2)
 .exact .inr (.inr ⟨h1,hR.trans h2 k⟩)
 .exact .inl (hR.trans h1 k2)
 exact .inr (.inr ⟨h1,k2⟩)
theorem Z2:∀a b,adr R u v a b↔adr R v u a b:=fun a b=>by unfold adr;constructor<;>(rintro(h|h|h);exact .inl h;exact .inr (.inr h);exact .inr (.inl h))
theorem Ka(hR:Eqv R):∀P,Eqv (Kb R P)
 | []=>hR
 | p::P=>VD (Ka hR P) _ _
theorem KN:∀P {a b},R a b->Kb R P a b
 | [],_,_,h=>h
 | p::P,_,_,h=>.inl (KN P h)
theorem M6(hR:Eqv R):∀{P:List (Nat×Nat)} {p:Nat×Nat},p∈P->Kb R P p.1 p.2
 | q::P,p,h=>by
  have hE:=Ka hR P;rcases A1H.1 h with rfl|h
  .exact .inr (.inl ⟨hE.refl _,hE.refl _⟩)
  exact .inl (M6 hR h)
theorem JO{p:Nat->Prop}(h:∃a,p a):∃a,p a/\∀b,b<a->¬p b:=by
 obtain⟨a,ha⟩:=h
 induction a using Nat.strongRecOn with
 | _ a ih=>
  by_cases c:∃b,b<a/\p b
  .obtain⟨b,h1,h2⟩:=c;exact ih b h1 h2
  exact⟨a,ha,fun b hb hpb=>c ⟨b,hb,hpb⟩⟩
theorem MW{p q:Nat->Bool}{x0:Nat}:∀{l:List Nat},l.Nodup->(∀x,x∈l->p x=true->q x=true\/x=x0)->l.countP p<=l.countP q+1
 | [],_,_=>by simp
 | a::l,hn,h=>by
  rw[A1Z] at hn;rw[A1Q,A1Q];by_cases e:a=x0
  .have:l.countP p<=l.countP q:=A3R fun x hx hp=>(h x (by simp[hx]) hp).resolve_right fun f=>hn.1 (by rw[e,<-f];exact hx);split<;>split<;>omega
  have ih:=MW hn.2 fun x hx=>h x (by simp[hx]);by_cases c:p a=true
  .rw[if_pos c,if_pos ((h a (by simp) c).resolve_right e)];omega
  rw[if_neg c];omega
theorem A0Y(hR:Eqv R)(hu:u<n)(hv:v<n):Ry n R<=Ry n (adr R u v)+1:=by
 have key:∀{u v p q},(R p u/\∀b,b<p->¬R b u)->(R q v/\∀b,b<q->¬R b v)->p<=q->Ry n R<=Ry n (adr R u v)+1:=by
  intro u v p q hp hq hpq;refine MW (x0:=q) A2f fun x hx hm=>?_;simp only[decide_eq_true_eq] at hm ⊢;by_cases e:x=q
  .exact .inr e
  left;intro y hy ha;rcases ha with h|⟨h1,h2⟩|⟨h1,h2⟩
  .exact hm y hy h
  .-- x is of v's class
   have h3:R q x:=hR.trans hq.1 h2;have:¬q<x:=fun c=>hm q c h3;exact hq.2 x (by omega) (hR.symm h2)
  have h3:R p x:=hR.trans hp.1 h2;have:¬p<x:=fun c=>hm p c h3;have h4:¬x<p:=fun c=>hp.2 x c (hR.symm h2);exact hq.2 y (by omega) h1
 obtain⟨p,hp⟩:=JO (p:=fun p=>R p u) ⟨u,hR.refl u⟩;obtain⟨q,hq⟩:=JO (p:=fun q=>R q v) ⟨v,hR.refl v⟩;rcases Nat.le_total p q with h|h
 .exact key hp hq h
 have:=key hq hp h;have e:adr R u v=adr R v u:=by funext a b;exact propext (Z2 a b)
 rw[e];exact this
theorem Rx(hR:Eqv R):∀{P:List (Nat×Nat)},(∀p,p∈P->p.1<n/\p.2<n)->Ry n R<=Ry n (Kb R P)+P.length
 | [],_=>by simp[Kb]
 | p::P,h=>by
  have h1:=Rx hR (P:=P) fun q hq=>h q (by simp[hq]);have h2:=A0Y (Ka hR P) (h p (by simp)).1 (h p (by simp)).2;show _<=Ry n (adr (Kb R P) p.1 p.2)+_;rw[A2a];omega
theorem YB(h:∀a b,a<n->b<n->R a b->S a b):Ry n S<=Ry n R:=by
 refine A3R fun x hx hm=>?_;simp only[decide_eq_true_eq] at hm ⊢;exact fun y hy hr=>hm y hy (h y x (by have:=A1r.1 hx;omega) (A1r.1 hx) hr)
theorem A0X(hR:Eqv R){f:Nat->Nat}{p:Nat->Bool}{k:Nat}(h1:∀h,h<n->f h<k/\p (f h)=true)(h2:∀a b,a<n->b<n->f a=f b->R a b):Ry n R<=(List.range k).countP p:=by
 have e:Ry n R=(((List.range n).filter fun v=>decide (∀y,y<v->¬R y v)).map f).length:=by
  unfold Ry;rw[A2q,A1S]
 have e2:(List.range k).countP p=((List.range k).filter p).length:=A2q;rw[e,e2];refine Eh ?_ fun x hx=>?_
 .unfold List.Nodup;rw[A2b];have:((List.range n).filter fun v=>decide (∀y,y<v->¬R y v)).Nodup:=List.Nodup.sublist A1X A2f;refine this.imp_of_mem fun{a b} ha hb hab he=>?_;obtain⟨a1,a2⟩:=A1D.1 ha;obtain⟨b1,b2⟩:=A1D.1 hb;simp only[decide_eq_true_eq] at a2 b2;have:=h2 a b (A1r.1 a1) (A1r.1 b1) he;rcases Nat.lt_or_gt_of_ne hab with c|c
  .exact b2 a c this
  exact a2 b c (hR.symm this)
 obtain⟨h,hh,rfl⟩:=A1G.1 hx;have:=A1r.1 (A1D.1 hh).1;exact A1D.2 ⟨A1r.2 (h1 h this).1,(h1 h this).2⟩
end
end
section
open Classical
def EX(rs:List (List Int))(v:Int):List Int:=if 0<=v then(rs[v.toNat]?).getD [] else[]
def Yy(fn:Nat->Int)(x:Int):Int:=fn x.toNat
section
variable{n:Nat}{es:List Pr}{rs:List (List Int)}{fn:Nat->Int}{pa he oi:Int->Int}{T:Nat->Nat->Prop}{v x y:Int}
theorem Pc(hok:CO n es rs)(h0:0<=v)(h1:v<n):∃l,rs[v.toNat]? =some l/\EX rs v=l/\(∀h,h∈l↔VH es h/\Aj es h=v)/\l.Nodup:=by
 obtain⟨hV,hN,hrow⟩:=hok;have hlt:v.toNat<rs.length:=by omega
 obtain⟨l,hl⟩:∃l,rs[v.toNat]? =some l:=⟨_,A1d hlt⟩;obtain⟨a1,a2,a3⟩:=hrow v.toNat l hl;have ev:((v.toNat:Nat):Int)=v:=by omega
 unfold Fr at a3;rw[ev] at a1 a3;refine⟨l,hl,by unfold EX;rw[if_pos h0,hl];rfl,fun h=>⟨fun hm=>?_,fun hm=>?_⟩,a2⟩
 .obtain⟨b1,b2,b3⟩:=a1 h hm;exact⟨⟨b1,b2⟩,b3⟩
 have hs:∀z,z∈l->z∈Bs es v:=fun z hz=>by
  obtain⟨b1,b2,b3⟩:=a1 z hz;exact(Bb hV).2 ⟨b1,b2,b3⟩
 have hx:h∈Bs es v:=(Bb hV).2 ⟨hm.1.1,hm.1.2,hm.2⟩;apply Classical.byContradiction;intro hn;have:=E2 (a:=h::l) (b:=Bs es v) (A1Z.2 ⟨hn,a2⟩) (fun z hz=>by
  rcases A1H.1 hz with rfl|hz
  .exact hx
  exact hs z hz);simp at this;omega
theorem Lu(hok:CO n es rs):HL es (EX rs):=by
 have hV:=hok.1;refine⟨fun v h=>?_,fun v=>?_⟩
 .by_cases c:0<=v/\v<n
  .obtain⟨l,_,h2,h3,_⟩:=Pc hok c.1 c.2;rw[h2];exact h3 h
  constructor
  .intro hm;unfold EX at hm;split at hm
   .rename_i h0;have:¬v.toNat<rs.length:=fun h=>c ⟨h0,by have:=hok.2.1;omega⟩;rw[A1u (by omega)] at hm;simp at hm
   simp at hm
  rintro⟨h1,h2⟩;have:=BE hV h1.1 h1.2;rw[h2] at this;exact absurd this c
 by_cases c:0<=v/\v<n
 .obtain⟨l,_,h2,_,h4⟩:=Pc hok c.1 c.2;rw[h2];exact h4
 unfold EX;split
 .rename_i h0;have:¬v.toNat<rs.length:=fun h=>c ⟨h0,by have:=hok.2.1;omega⟩;rw[A1u (by omega)];simp
 simp
theorem PC(hok:CO n es rs)(hnx:Dj rs rs.length fn)(h0:0<=v)(h1:v<n){i:Nat}(hi:(EX rs v)[i]? =some x):(EX rs v)[(i+1)%(EX rs v).length]? =some (Yy fn x):=by
 obtain⟨l,hl,h2,h3,_⟩:=Pc hok h0 h1;rw[h2] at hi ⊢;have hx:=((h3 x).1 (A1h hi)).1;have e:x=((x.toNat:Nat):Int):=by have:=hx.1;omega
 rw[e] at hi;exact(GH hok hnx hl hi).1
theorem nxI_vh(hok:CO n es rs)(hnx:Dj rs rs.length fn)(hx:VH es x):VH es (Yy fn x)/\Aj es (Yy fn x)=Aj es x:=by
 have hr:=BE hok.1 hx.1 hx.2;have hR:=Lu hok;have hm:=(hR.mem (Aj es x) x).2 ⟨hx,rfl⟩;obtain⟨i,hi⟩:=A1j.1 hm;have:=PC hok hnx hr.1 hr.2 hi;exact(hR.mem _ _).1 (A1h this)
theorem twn_tw(hx:0<=x):twn (tw x).toNat=x.toNat:=by unfold twn tw;split<;>split<;>omega
theorem Ya(hok:CO n es rs)(hnx:Dj rs rs.length fn)(hx:VH es x):CM fn (tw x).toNat=(Yy fn x).toNat:=by
 unfold CM Yy;rw[twn_tw hx.1]
theorem CD.ind{N:Int}(hF:CD es pa he oi N){P:Int->Prop}(hP:∀v,0<=v->v<N->(∀h,GP es pa oi h->Aj es h=v->P (AD es h))->P v):∀v,0<=v->v<N->P v:=by
 obtain⟨H,hH⟩:∃H:Nat,∀v,0<=v->v<N->he v<H:=by
  have:∀n:Nat,∃H:Nat,∀v:Int,0<=v->v<n->he v<H:=by
   intro n
   induction n with
   | zero=>exact⟨0,fun v a b=>by omega⟩
   | succ n ih=>
    obtain⟨H,hH⟩:=ih;refine⟨H+((he n).toNat+1),fun v a b=>?_⟩;by_cases c:v=n
    .subst c;omega
    have:=hH v a (by omega);omega
  obtain⟨H,hH⟩:=this N.toNat;exact⟨H,fun v a b=>hH v a (by omega)⟩
 have:∀(n:Nat) (v:Int),0<=v->v<N->(H:Int)-he v<=n->P v:=by
  intro n
  induction n with
  | zero=>intro v h0 h1 hn;have:=hH v h0 h1;omega
  | succ n ih=>
   intro v h0 h1 hn;refine hP v h0 h1 fun h hh hv=>?_;have:=(hF.tree hh).1;have r:=(hF.rng hh.1.1).2;exact ih _ r.1 r.2 (by rw[this,hv];omega)
 exact fun v h0 h1=>this H v h0 h1 (by have:=hF.pos v h0 h1;omega)
theorem Ms{N:Int}(hF:CD es pa he oi N)(hx:VH es x):DS es oi x\/DS es oi (tw x):=by
 have h0:=hx.1;have h1:=hx.2;by_cases c:oi (x / 2)=x
 .exact .inl ⟨hx,c⟩
 refine .inr ⟨hx.tw,?_⟩;have tt:tw x / 2=x / 2:=by unfold tw;split<;>omega
 rw[tt];rcases hF.ori (x / 2) (by omega) (by omega) with e|e<;>rw[e] at c ⊢<;>unfold tw<;>split<;>omega
theorem X1{l:List Int}{K:Int->Int->Prop}(hr:∀a,K a a)(hs:∀{a b},K a b->K b a)(ht:∀{a b c},K a b->K b c->K a c){p:Nat}
 (h:∀(i:Nat) a b,i≠p->l[i]? =some a->l[(i+1)%l.length]? =some b->K a b):∀a b,a∈l->b∈l->K a b:=by
 by_cases hl:l.length=0
 .intro a b ha;rw[A1s hl] at ha;simp at ha
 have key:∀k,k<l.length->∀a b,l[(p+1)%l.length]? =some a->l[(p+1+k)%l.length]? =some b->K a b:=by
  intro k
  induction k with
  | zero=>intro _ a b ha hb;rw[A2x,ha] at hb;cases hb;exact hr _
  | succ k ih=>
   intro hk a b ha hb;have hlt:=A3y (p+1+k) (show 0<l.length by omega);obtain⟨c,hc⟩:∃c,l[(p+1+k)%l.length]? =some c:=⟨_,A1d hlt⟩;refine ht (ih (by omega) a c ha hc) (h _ c b (fun e=>?_) hc ?_)
   .have h1:(p+1+k)%l.length=p:=e;have h2:p<l.length:=by omega
    rcases Nat.lt_or_ge (p+1+k) l.length with q|q
    .rw[A2y q] at h1;omega
    rw[Nat.mod_eq_sub_mod q] at h1;rw[A2y (by omega)] at h1;omega
   rw[<-hb,Nat.mod_add_mod];congr 2
 have all:∀a b,l[(p+1)%l.length]? =some a->b∈l->K a b:=fun a b ha hb=>by
  obtain⟨j,hj⟩:=A1j.1 hb;have hjl:=(A1e.1 hj).1;refine key ((j+(l.length-(p+1)%l.length))%l.length) (A3y _ (by omega)) a b ha ?_;rw[<-hj]
  congr 1
  have hm:=A3y (p+1) (show 0<l.length by omega);rw[Nat.add_mod_mod,<-Nat.mod_add_mod,show(p+1)%l.length+(j+(l.length-(p+1)%l.length))=j+l.length by omega,Nat.add_mod_right,A2y hjl]
 obtain⟨c,hc⟩:∃c,l[(p+1)%l.length]? =some c:=⟨_,A1d (A3y _ (by omega))⟩;exact fun a b ha hb=>ht (hs (all c a hc ha)) (all c b hc hb)
structure Tie (es:List Pr) (pa oi:Int->Int) (fn:Nat->Int) (T:Nat->Nat->Prop):Prop where
 eqv:Eqv T
 face:∀h,h<es.length*2->T h (CM fn h)
 over:∀e:Nat,e<es.length->pa (AD es (oi e))≠oi e->T (2*e) (2*e+1)
def TI(T:Nat->Nat->Prop)(a b:Int):Prop:=T a.toNat b.toNat
theorem LY{N:Int}(hF:CD es pa he oi N)(hT:Tie es pa oi fn T)(hx:VH es x)(hb:DO es pa oi x\/DO es pa oi (tw x)):TI T x (tw x):=by
 have h0:=hx.1;have h1:=hx.2;have he:pa (AD es (oi ((x / 2).toNat:Nat)))≠oi ((x / 2).toNat:Nat):=by
  have e:(((x / 2).toNat:Nat):Int)=x / 2:=by omega
  rw[e];have tt:tw x / 2=x / 2:=by unfold tw;split<;>omega
  rcases hb with hb|hb
  .rw[hb.1.2];exact hb.2
  have:=hb.1.2;rw[tt] at this;rw[this];exact hb.2
 have h2:=hT.over (x / 2).toNat (by omega) he;unfold TI tw;split
 .rw[show x.toNat=2*(x / 2).toNat by omega,show(x+1).toNat=2*(x / 2).toNat+1 by omega];exact h2
 rw[show x.toNat=2*(x / 2).toNat+1 by omega,show(x-1).toNat=2*(x / 2).toNat by omega];exact hT.eqv.symm h2
theorem QH(hok:CO n es rs)(hnx:Dj rs rs.length fn)(hT:Tie es pa oi fn T)(hx:VH es x):TI T (tw x) (Yy fn x):=by
 have h:=hx.tw;have:=hT.face (tw x).toNat (by have:=h.1;have:=h.2;omega);rw[Ya hok hnx hx] at this;exact this
theorem tour(hok:CO n es rs)(hnx:Dj rs rs.length fn)(hF:CD es pa he oi n)(hT:Tie es pa oi fn T):∀v,0<=v->v<(n:Int)->(∀x y,x∈EX rs v->y∈EX rs v->TI T x y)/\(0<=pa v->TI T (pa v) (tw (pa v))):=by
 refine hF.ind fun v h0 h1 ih=>?_;have hR:=Lu hok;have refl:∀a,TI T a a:=fun a=>hT.eqv.refl _;have symm:∀{a b},TI T a b->TI T b a:=fun h=>hT.eqv.symm h;have trans:∀{a b c},TI T a b->TI T b c->TI T a c:=fun h k=>hT.eqv.trans h k;have step:∀x,x∈EX rs v->x≠tw (pa v)\/pa v<0->TI T x (Yy fn x):=fun x hx hne=>by
  obtain⟨x1,x2⟩:=(hR.mem v x).1 hx;refine trans ?_ (QH hok hnx hT x1);rcases Ms hF x1 with ho|ho
  .by_cases ht:pa (AD es x)=x
   .have:=(ih x ⟨ho,ht⟩ x2).2 (by rw[ht];exact x1.1);rw[ht] at this;exact this
   exact LY hF hT x1 (.inl ⟨ho,ht⟩)
  by_cases ht:pa (AD es (tw x))=tw x
  .exfalso;rw[Ef x1,x2] at ht;rcases hne with h|h
   .exact h (by rw[ht,DK])
   rw[ht] at h;have:=x1.tw.1;omega
  exact LY hF hT x1 (.inr ⟨ho,ht⟩)
 have all:∀x y,x∈EX rs v->y∈EX rs v->TI T x y:=by
  refine X1 refl symm trans (p:=(EX rs v).idxOf (tw (pa v))) fun i a b hi ha hb=>?_;rw[PC hok hnx h0 h1 ha] at hb;cases hb;refine step a (A1h ha) (.inl fun e=>hi ?_);subst e;have hlt:=(A1e.1 ha).1;have hm:=List.idxOf_lt_length_of_mem (A1h ha);have e2:(EX rs v)[(EX rs v).idxOf (tw (pa v))]=tw (pa v):=List.getElem_idxOf hm;have e3:=(A1e.1 ha).2;exact(List.getElem_inj (hR.nodup v)).1 (e3.trans e2.symm)
 refine⟨all,fun hp=>?_⟩;obtain⟨a1,a2,_⟩:=hF.par h0 h1 hp;have hm:tw (pa v)∈EX rs v:=(hR.mem v _).2 ⟨a1.1.1.tw,by rw[BL a1.1.1,a2]⟩;obtain⟨b1,b2⟩:=nxI_vh hok hnx a1.1.1.tw;have:=QH hok hnx hT a1.1.1.tw;rw[DK] at this;exact trans this (all _ _ ((hR.mem v _).2 ⟨b1,by rw[b2,BL a1.1.1,a2]⟩) hm)
theorem VS(hok:CO n es rs)(hnx:Dj rs rs.length fn)(hF:CD es pa he oi n)(hT:Tie es pa oi fn T)(hx:VH es x):TI T x (tw x):=by
 have key:∀x,DS es oi x->TI T x (tw x):=fun x ho=>by
  by_cases ht:pa (AD es x)=x
  .have r:=(hF.rng ho.1).2;have:=(tour hok hnx hF hT _ r.1 r.2).2 (by rw[ht];exact ho.1.1);rw[ht] at this;exact this
  exact LY hF hT ho.1 (.inl ⟨ho,ht⟩)
 rcases Ms hF hx with ho|ho
 .exact key x ho
 have:=key _ ho;rw[DK] at this;exact hT.eqv.symm this
theorem VT(hok:CO n es rs)(hnx:Dj rs rs.length fn)(hF:CD es pa he oi n)(hT:Tie es pa oi fn T){a b:Nat}(hc:Dx es a b):∀x y,VH es x->VH es y->Aj es x=a->Aj es y=b->TI T x y:=by
 have hV:=hok.1;have at':∀{x y:Int},VH es x->VH es y->Aj es x=Aj es y->TI T x y:=fun{x y} hx hy e=>by
  have r:=(hF.rng hx).1;have hR:=Lu hok;exact(tour hok hnx hF hT _ r.1 r.2).1 x y ((hR.mem _ _).2 ⟨hx,J⟩) ((hR.mem _ _).2 ⟨hy,e.symm⟩)
 induction hc with
 | refl a=>exact fun x y hx hy h1 h2=>at' hx hy (h1.trans h2.symm)
 | edge u v h=>
  intro x y hx hy h1 h2;obtain⟨i,hi⟩:=A1j.1 h;have hh:=Du hi (u:=(u:Int)) (v:=(v:Int)) rfl rfl;have hz:VH es (2*(i:Int)):=⟨hh.lo,hh.hi⟩;have e1:=at' hx hz (by rw[h1,hh.fr]);have e2:=VS hok hnx hF hT hz;have e3:=at' hz.tw hy (by rw[BL hz,hh.to,h2]);exact hT.eqv.trans (hT.eqv.trans e1 e2) e3
 | symm _ ih=>exact fun x y hx hy h1 h2=>hT.eqv.symm (ih y x hy hx h2 h1)
 | @trans a b c h1 h2 ih1 ih2=>
  intro x y hx hy e1 e2;rcases FO h1 with e|⟨_,e,he,hc⟩
  .subst e;exact ih2 x y hx hy e1 e2
  obtain⟨z,hz,hzb⟩:∃z,VH es z/\Aj es z=b:=by
   obtain⟨i,hi⟩:=A1j.1 he;rcases hc with hc|hc
   .have:=Du hi (u:=b) (v:=e.2) hc rfl;exact⟨_,⟨this.lo,this.hi⟩,this.fr⟩
   have:=Fj hi (u:=b) (v:=e.1) rfl hc;exact⟨_,⟨this.lo,this.hi⟩,this.fr⟩
  exact hT.eqv.trans (ih1 x z hx hz e1 hzb) (ih2 z y hz hy hzb e2)
/-! ### counting -/
theorem V8{N:Int}(hF:CD es pa he oi N){a b:Nat}(hc:Dx es a b):∀r:Int,0<=r->r<N->pa r<0->(BJ es pa r a↔BJ es pa r b):=by
 have edge:∀{u v:Int},0<=v->v<N->BJ es pa u v->∀r:Int,0<=r->r<N->pa r<0->(BJ es pa r u↔BJ es pa r v):=fun{u v} v0 v1 huv r r0 r1 hr=>by
  constructor
  .exact fun h=>huv.trans h
  intro h;have ru:=(huv.le hF v0 v1).1;refine h.row hF v0 v1 huv ?_;have:he r=0:=by
   rcases hF.up r r0 r1 with⟨_,e⟩|⟨e,_⟩
   .exact e
   have:=e.1;omega
  have:=hF.pos u ru.1 ru.2;omega
 induction hc with
 | refl a=>exact fun _ _ _ _=>Iff.rfl
 | edge u v h=>
  obtain⟨i,hi⟩:=A1j.1 h;have hh:=Du hi (u:=(u:Int)) (v:=(v:Int)) rfl rfl;have hz:VH es (2*(i:Int)):=⟨hh.lo,hh.hi⟩;have rz:=hF.rng hz;rw[hh.fr,hh.to] at rz;have key:∀{x:Int},DS es oi x->BJ es pa (Aj es x) (AD es x)\/BJ es pa (AD es x) (Aj es x):=fun{x} ho=>by
   by_cases ht:pa (AD es x)=x
   .exact .inl (hF.tree ⟨ho,ht⟩).2
   exact .inr (hF.back ⟨ho,ht⟩).1
  have:BJ es pa (u:Int) (v:Int)\/BJ es pa (v:Int) (u:Int):=by
   rcases Ms hF hz with ho|ho
   .have:=key ho;rw[hh.fr,hh.to] at this;exact this
   have:=key ho;rw[BL hz,Ef hz,hh.fr,hh.to] at this;exact this.symm
  rcases this with h|h
  .exact edge rz.2.1 rz.2.2 h
  exact fun r r0 r1 hr=>(edge rz.1.1 rz.1.2 h r r0 r1 hr).symm
 | symm _ ih=>exact fun r a b c=>(ih r a b c).symm
 | trans _ _ ih1 ih2=>exact fun r a b c=>(ih1 r a b c).trans (ih2 r a b c)
noncomputable def Hi(es:List Pr)(v:Nat):Nat:=Classical.choose (JO (p:=fun y=>Dx es y v) ⟨v,.refl v⟩)
theorem Do(es:List Pr)(v:Nat):Dx es (Hi es v) v/\(∀b,b<Hi es v->¬Dx es b (Hi es v))/\Hi es v<=v:=by
 have h:=A2X (JO (p:=fun y=>Dx es y v) ⟨v,.refl v⟩);refine⟨h.1,fun b hb hc=>h.2 b hb (hc.trans h.1),?_⟩;apply Classical.byContradiction;intro hn;exact h.2 v (by unfold Hi at hn;omega) (.refl v)
theorem T9(hF:CD es pa he oi n):((List.range es.length).countP fun(e:Nat)=>decide (pa (AD es (oi e))≠oi e))+n<=es.length+Fh n es:=by
 have c1:(List.range es.length).countP (fun(e:Nat)=>decide (pa (AD es (oi e))≠oi e))+(List.range es.length).countP (fun(e:Nat)=>decide (pa (AD es (oi e))=oi e))=es.length:=by
  have:=List.length_eq_countP_add_countP (fun(e:Nat)=>decide (pa (AD es (oi e))=oi e)) (l:=List.range es.length);rw[A2m] at this;have e:(List.range es.length).countP (fun(e:Nat)=>decide (pa (AD es (oi e))≠oi e))=(List.range es.length).countP (fun a=>decide (¬decide (pa (AD es (oi (a:Nat)))=oi (a:Nat))=true)):=by
   congr 1;funext a;simp
  rw[e];omega
 have c2:(List.range n).countP (fun(v:Nat)=>decide (pa v<0))+(List.range n).countP (fun(v:Nat)=>decide (0<=pa v))=n:=by
  have:=List.length_eq_countP_add_countP (fun(v:Nat)=>decide (pa v<0)) (l:=List.range n);rw[A2m] at this;have e:(List.range n).countP (fun(v:Nat)=>decide (0<=pa v))=(List.range n).countP (fun a=>decide (¬decide (pa (a:Nat)<0)=true)):=by
   congr 1;funext a;simp
  rw[e];omega
 have inj:∀{p q:Nat->Bool} {f:Nat->Nat} {k m:Nat},(∀v,v<k->p v=true->f v<m/\q (f v)=true)->(∀a b,a<k->b<k->p a=true->p b=true->f a=f b->a=b)->(List.range k).countP p<=(List.range m).countP q:=by
  intro p q f k m h1 h2;have e:(List.range k).countP p=(((List.range k).filter p).map f).length:=by rw[A2q,A1S]
  rw[e,A2q];refine Eh ?_ fun x hx=>?_
  .unfold List.Nodup;rw[A2b];have:((List.range k).filter p).Nodup:=List.Nodup.sublist A1X A2f;refine this.imp_of_mem fun{a b} ha hb hab he=>?_;obtain⟨a1,a2⟩:=A1D.1 ha;obtain⟨b1,b2⟩:=A1D.1 hb;exact hab (h2 a b (A1r.1 a1) (A1r.1 b1) a2 b2 he)
  obtain⟨h,hh,rfl⟩:=A1G.1 hx;obtain⟨a1,a2⟩:=A1D.1 hh;have:=h1 h (A1r.1 a1) a2;exact A1D.2 ⟨A1r.2 this.1,this.2⟩
 have c3:(List.range n).countP (fun(v:Nat)=>decide (0<=pa v))<=(List.range es.length).countP (fun(e:Nat)=>decide (pa (AD es (oi e))=oi e)):=by
  refine inj (f:=fun v=>(pa v / 2).toNat) (fun v hv hp=>?_) fun a b ha hb pa' pb' e=>?_
  .simp only[decide_eq_true_eq] at hp;obtain⟨a1,a2,_⟩:=hF.par (v:=v) (by omega) (by omega) hp;have e:(((pa v / 2).toNat:Nat):Int)=pa v / 2:=by omega
   refine⟨by have:=a1.1.1.2;omega,?_⟩;simp only[decide_eq_true_eq];rw[e,a1.1.2,a2]
  simp only[decide_eq_true_eq] at pa' pb';obtain⟨a1,a2,_⟩:=hF.par (v:=a) (by omega) (by omega) pa';obtain⟨b1,b2,_⟩:=hF.par (v:=b) (by omega) (by omega) pb';have:=(hF.orn_ne a1.1 b1.1).1 (by omega);rw[this,b2] at a2;omega
 have c4:(List.range n).countP (fun(v:Nat)=>decide (pa v<0))<=Fh n es:=by
  refine inj (f:=Hi es) (fun v hv hp=>?_) fun a b ha hb pa' pb' e=>?_
  .obtain⟨_,h2,h3⟩:=Do es v;exact⟨by omega,by simpa using h2⟩
  simp only[decide_eq_true_eq] at pa' pb';have h1:=(Do es a).1;have h2:=(Do es b).1;rw[e] at h1;have hc:Dx es a b:=h1.symm.trans h2;have:=(V8 hF hc a (by omega) (by omega) pa').1 .refl;cases this with
  | refl=>rfl
  | step hp _=>omega
 omega
theorem Ve(hV:BX n es):((List.range n).countP fun v=>decide (∀y,y<v->¬Dx es y v)&&decide (Fr es (v:Nat)≠0))+NC n es<=Fh n es:=by
 unfold Fh NC;have key:∀l:List Nat,(l.countP fun v=>decide (∀y,y<v->¬Dx es y v)&&decide (Fr es (v:Nat)≠0))+l.countP (fun v=>decide (Fr es (v:Nat)=0))<=l.countP fun v=>decide (∀y,y<v->¬Dx es y v):=by
  intro l
  induction l with
  | nil=>simp
  | cons a l ih=>
   simp only[A1Q];by_cases c:Fr es (a:Nat)=0
   .have hm:∀y,y<a->¬Dx es y a:=fun y hy hc=>by
     rcases FO hc with e|⟨_,h⟩
     .omega
     exact(GN hV a).2 h c
    simp[c] at ih ⊢;rw[if_pos hm];omega
   simp[c] at ih ⊢;omega
 exact key _
def R0(m:Nat)(f:Nat->Nat)(a b:Nat):Prop:=a=b\/(a<m/\b<m/\∃k,De f k a=b)
theorem R0_eqv{m:Nat}{f:Nat->Nat}(hp:Perm m f):Eqv (R0 m f):=by
 refine⟨fun a=>.inl J,fun{a b} h=>?_,fun{a b c} h k=>?_⟩
 .rcases h with rfl|⟨h1,h2,k,h3⟩
  .exact .inl J
  obtain⟨r,hr⟩:=F4 hp h1 h3;exact .inr ⟨h2,h1,r,hr⟩
 rcases h with rfl|⟨h1,h2,i,h3⟩
 .exact k
 rcases k with rfl|⟨k1,k2,j,k3⟩
 .exact .inr ⟨h1,h2,i,h3⟩
 exact .inr ⟨h1,k2,j+i,by rw[E9,h3,k3]⟩
theorem YZ{fn:Nat->Int}(hp:Perm (es.length*2) (CM fn)):EH es fn<=Ry (es.length*2) (R0 (es.length*2) (CM fn)):=by
 unfold EH D6 Ry;rw[A1S,<-A2q];refine A3R fun x hx hl=>?_;simp only[decide_eq_true_eq] at hl ⊢;intro y hy hr;rcases hr with rfl|⟨h1,h2,k,h3⟩
 .omega
 obtain⟨r,hr⟩:=F4 hp h1 h3;have:=hl r;omega
theorem K4(hok:CO n es rs)(hnx:Dj rs rs.length fn)(hfl:DJ n es fn=0)(hF:CD es pa he oi n){b:Nat}(hb:b<es.length)(hbk:pa (AD es (oi b))≠oi b):
  ∃g:Nat->Bool,(∀h,h<es.length*2->g (CM fn h)=g h)/\(∀e,e<es.length->e≠b->pa (AD es (oi e))≠oi e->g (2*e)=g (2*e+1))/\g (2*b)≠g (2*b+1):=by
 have hp:=(Iu hok hnx).1;have hE0:=R0_eqv hp;obtain⟨P,hP⟩:∃P,P=(((List.range es.length).filter fun(e:Nat)=>decide (pa (AD es (oi e))≠oi e)).erase b).map fun e=>(2*e,2*e+1):=⟨_,rfl⟩;have hPm:∀e,e<es.length->e≠b->pa (AD es (oi e))≠oi e->(2*e,2*e+1)∈P:=fun e he hne hek=>by
  rw[hP];exact A1G.2 ⟨e,(List.mem_erase_of_ne hne).2 (A1D.2 ⟨A1r.2 he,by simpa using hek⟩),J⟩
 have hPlt:∀p,p∈P->p.1<es.length*2/\p.2<es.length*2:=fun p hp=>by
  rw[hP] at hp;obtain⟨e,he,rfl⟩:=A1G.1 hp;have:=A1r.1 (A1D.1 (List.mem_of_mem_erase he)).1;dsimp only;omega
 have hPl:P.length+1=(List.range es.length).countP fun(e:Nat)=>decide (pa (AD es (oi e))≠oi e):=by
  have hm:b∈(List.range es.length).filter fun(e:Nat)=>decide (pa (AD es (oi e))≠oi e):=A1D.2 ⟨A1r.2 hb,by simpa using hbk⟩;have:=List.length_erase_of_mem hm;have h2:=A3m hm;rw[hP,A1S,this,A2q];omega
 have hE:=Ka hE0 P;have hE2:=VD hE (2*b) (2*b+1);have hT:Tie es pa oi fn (adr (Kb (R0 (es.length*2) (CM fn)) P) (2*b) (2*b+1)):=by
  refine⟨hE2,fun h hh=>.inl (KN P (.inr ⟨hh,hp.lt h hh,1,J⟩)),fun e he hek=>?_⟩;by_cases c:e=b
  .subst c;exact .inr (.inl ⟨hE.refl _,hE.refl _⟩)
  exact .inl (M6 hE0 (hPm e he c hek))
 have hV:=hok.1;have small:Ry (es.length*2) (adr (Kb (R0 (es.length*2) (CM fn)) P) (2*b) (2*b+1))+NC n es<=Fh n es:=by
  refine A2G (Nat.add_le_add_right (A0X hE2 (f:=fun h=>Hi es (Aj es h).toNat) (p:=fun v=>decide (∀y,y<v->¬Dx es y v)&&decide (Fr es (v:Nat)≠0)) (k:=n) (fun h hh=>?_) fun a b ha hb e=>?_) _) (Ve hV)
  .have hx:VH es (h:Int):=⟨by omega,by omega⟩;have r:=(hF.rng hx).1;obtain⟨l1,l2,l3⟩:=Do es (Aj es h).toNat;refine⟨by omega,?_⟩;simp only[A1P,decide_eq_true_eq];refine⟨l2,?_⟩;rw[Ne,<-Ne,GN hV];rcases FO l1 with e|⟨h,_⟩
   .rw[e];have e2:(((Aj es h).toNat:Nat):Int)=Aj es h:=by omega
    obtain⟨i,q,hq,hc⟩:=Cq hx.1 hx.2;refine⟨q,A1h hq,?_⟩;rw[e2];rcases hc with⟨_,f,_⟩|⟨_,f,_⟩
    .exact .inl f.symm
    exact .inr f.symm
   exact h
  have h1:=(Do es (Aj es a).toNat).1;have h2:=(Do es (Aj es b).toNat).1;rw[e] at h1;have hx:VH es (a:Int):=⟨by omega,by omega⟩;have hy:VH es (b:Int):=⟨by omega,by omega⟩;have r1:=(hF.rng hx).1;have r2:=(hF.rng hy).1;have:=VT hok hnx hF hT (h1.symm.trans h2) a b hx hy (by omega) (by omega);unfold TI at this;rw[A1g,A1g] at this;exact this
 have hno:¬Kb (R0 (es.length*2) (CM fn)) P (2*b) (2*b+1):=fun hc=>by
  have h1:=YZ hp;have h2:=Rx hE0 hPlt;have h3:Ry (es.length*2) (Kb (R0 (es.length*2) (CM fn)) P)<=Ry (es.length*2) (adr (Kb (R0 (es.length*2) (CM fn)) P) (2*b) (2*b+1)):=YB fun a c _ _ h=>by
   rcases h with h|⟨h1,h2⟩|⟨h1,h2⟩
   .exact h
   .exact hE.trans h1 (hE.trans hc h2)
   exact hE.trans h1 (hE.trans (hE.symm hc) h2)
  have h4:=T9 hF;unfold DJ at hfl;omega
 refine⟨fun h=>decide (Kb (R0 (es.length*2) (CM fn)) P (2*b) h),fun h hh=>?_,fun e he hne hek=>?_,fun e=>?_⟩
 .have h1:Kb (R0 (es.length*2) (CM fn)) P h (CM fn h):=KN P (.inr ⟨hh,hp.lt h hh,1,rfl⟩);dsimp only;rw[A3a,decide_eq_true_eq,decide_eq_true_eq];exact⟨fun h2=>hE.trans h2 (hE.symm h1),fun h2=>hE.trans h2 h1⟩
 .have h1:=M6 hE0 (hPm e he hne hek);dsimp only;rw[A3a,decide_eq_true_eq,decide_eq_true_eq];exact⟨fun h2=>hE.trans h2 h1,fun h2=>hE.trans h2 (hE.symm h1)⟩
 dsimp only at e;have:=hE.refl (2*b);rw[decide_eq_true this] at e;exact hno (of_decide_eq_true e.symm)
end
end
section
open Classical
section
variable{n:Nat}{es:List Pr}{rs:List (List Int)}{fn:Nat->Int}
theorem OD{p q:Nat->Bool}{f:Nat->Nat}{k m:Nat}(h1:∀v,v<k->p v=true->f v<m/\q (f v)=true)(h2:∀a b,a<k->b<k->p a=true->p b=true->f a=f b->a=b):(List.range k).countP p<=(List.range m).countP q:=by
 have e:(List.range k).countP p=(((List.range k).filter p).map f).length:=by rw[A2q,A1S]
 rw[e,A2q];refine Eh ?_ fun x hx=>?_
 .unfold List.Nodup;rw[A2b];have:((List.range k).filter p).Nodup:=List.Nodup.sublist A1X A2f;refine this.imp_of_mem fun{a b} ha hb hab he=>?_;obtain⟨a1,a2⟩:=A1D.1 ha;obtain⟨b1,b2⟩:=A1D.1 hb;exact hab (h2 a b (A1r.1 a1) (A1r.1 b1) a2 b2 he)
 obtain⟨h,hh,rfl⟩:=A1G.1 hx;obtain⟨a1,a2⟩:=A1D.1 hh;have:=h1 h (A1r.1 a1) a2;exact A1D.2 ⟨A1r.2 this.1,this.2⟩
theorem HY(hok:CO n es rs)(hnx:Dj rs rs.length fn){h z:Nat}(hh:h<es.length*2)(hz:z<es.length*2)(e:Aj es z=Aj es h)(hf:Qq fn h=h):z=h:=by
 obtain⟨v,l,i,hl,hi,hv⟩:=G6 hok hh;obtain⟨j,hj⟩:=Tn hok hz (by rw[e];exact hv) hl;have hil:=(A1e.1 hi).1;have hjl:=(A1e.1 hj).1;have h3:=Lt hok hnx hl hi (j+l.length-i);rw[show i+(j+l.length-i)=j+l.length by omega,Nat.add_mod_right,A2y hjl,hj,LH hf] at h3;have:=Option.some.inj h3;omega
theorem Jf(hV:BX n es){e:Nat}(he:e<es.length):∃u v:Nat,es[e]? =some ((u:Int),(v:Int))/\u<v/\v<n/\Aj es (2*e:Nat)=u/\Aj es (2*e+1:Nat)=v:=by
 obtain⟨x,hx⟩:∃x,es[e]? =some x:=⟨_,A1d he⟩;obtain⟨u,v,rfl,h1,h2⟩:=GK hV (A1h hx);obtain⟨f1,f2⟩:=Ek hx;refine⟨u,v,hx,h1,h2,?_,?_⟩
 .unfold Aj;rw[if_pos (by omega),show((2*e:Nat):Int).toNat=2*e by omega,f1];rfl
 unfold Aj;rw[if_pos (by omega),show((2*e+1:Nat):Int).toNat=2*e+1 by omega,f2];rfl
theorem Sg{h m:Nat}(hh:h<m*2):twn h<m*2:=by unfold twn;split<;>omega
theorem R4(hV:BX n es){h:Nat}(hh:h<es.length*2):Aj es (twn h:Nat)≠Aj es h:=by
 obtain⟨u,v,_,h1,_,h2,h3⟩:=Jf hV (e:=h / 2) (by omega);unfold twn;split
 .rw[show h+1=2*(h / 2)+1 by omega,h3,show(h:Int)=((2*(h / 2):Nat):Int) by omega,h2];omega
 rw[show h-1=2*(h / 2) by omega,h2,show(h:Int)=((2*(h / 2)+1:Nat):Int) by omega,h3];omega
theorem Mm(hok:CO n es rs)(hnx:Dj rs rs.length fn){h:Nat}(hh:h<es.length*2):Aj es (CM fn h:Nat)=Aj es (twn h:Nat):=by
 obtain⟨v,l,i,hl,hi,hv⟩:=G6 hok (Sg hh);obtain⟨_,h2,_,h4⟩:=GH hok hnx hl hi;unfold CM;rw[show(((fn (twn h)).toNat:Nat):Int)=fn (twn h) by omega,h4,hv]
theorem XC{h:Nat}:AD es (h:Int)=Aj es (twn h:Nat):=by
 unfold AD;rw[if_pos (by omega)]
 congr 1
 unfold tw twn;split<;>split<;>omega
theorem US(hok:CO n es rs)(hnx:Dj rs rs.length fn){h:Nat}(hh:h<es.length*2)(e:CM fn (CM fn h)=h):CM fn h=twn h:=by
 have hp:=(Iu hok hnx).1;have hk:=hp.lt h hh;have e1:=Mm hok hnx hh;have e2:=Mm hok hnx hk;rw[e] at e2;have a:CZ es (Aj es (twn h:Nat)) (Aj es h) (CM fn h:Nat):=⟨by omega,by omega,e1,by rw[XC];exact e2.symm⟩;have b:CZ es (Aj es (twn h:Nat)) (Aj es h) (twn h:Nat):=⟨by omega,by have:=Sg hh;omega,rfl,by rw[XC,Ju]⟩;have:=a.uniq hok.1 b;omega
def K2e(fn:Nat->Int)(e:Nat):Prop:=Qq fn (2*e)=2*e/\Qq fn (2*e+1)=2*e+1
theorem Ww{m:Nat}{f:Nat->Nat}(hp:Perm m f){a b i j:Nat}(ha:a<m)(hb:b<m)(la:Cc f a)(lb:Cc f b)(e:De f i a=De f j b):a=b:=by
 obtain⟨r,hr⟩:=F4 hp hb (q:=j) rfl;have h1:De f (r+i) a=b:=by rw[E9,e];exact hr
 obtain⟨q,hq⟩:=F4 hp ha (q:=i) rfl;have h2:De f (q+j) b=a:=by rw[E9,<-e];exact hq
 have:=la (r+i);have:=lb (q+j);omega
noncomputable def thr(f:Nat->Nat)(h:Nat):List Nat:=[h,f h]++if f (f h)=h then[] else[f (f h)]
theorem O2{f:Nat->Nat}{h x:Nat}(hx:x∈thr f h):∃i,De f i h=x:=by
 unfold thr at hx;rcases A1C.1 hx with g|g
 .simp at g;rcases g with rfl|rfl
  .exact⟨0,J⟩
  exact⟨1,J⟩
 split at g
 .simp at g
 simp at g;exact⟨2,g.symm⟩
theorem Sb(hok:CO n es rs)(hnx:Dj rs rs.length fn):3*EH es fn<=es.length*2+(List.range es.length).countP fun e=>decide (K2e fn e):=by
 have hp:=(Iu hok hnx).1;have hV:=hok.1;have hfix:∀h,h<es.length*2->CM fn h≠h:=fun h hh e=>by
  have:=Mm hok hnx hh;rw[e] at this;exact R4 hV hh this.symm
 obtain⟨L,hL⟩:∃L,L=(List.range (es.length*2)).filter fun x=>decide (Cc (CM fn) x):=⟨_,rfl⟩;have hLm:∀x,x∈L->x<es.length*2/\Cc (CM fn) x:=fun x hx=>by
  rw[hL,A1D,A1r] at hx;exact⟨hx.1,by simpa using hx.2⟩
 have hLn:L.Nodup:=by rw[hL];exact List.Nodup.sublist A1X A2f
 have hF:EH es fn=L.length:=by unfold EH D6;rw[A1S,hL]
 have hnd:(L.flatMap (thr (CM fn))).Nodup:=by
  unfold List.Nodup;rw[List.pairwise_flatMap];refine⟨fun a ha=>?_,hLn.imp_of_mem fun{a b} ha hb hab x hx y hy e=>?_⟩
  .have h1:=(hLm a ha).1;have h2:=hp.lt a h1;have h3:=hfix a h1;have h4:=hfix _ h2;unfold thr;split
   .simp;exact fun e=>h3 e.symm
   rename_i c;simp;exact⟨⟨fun e=>h3 e.symm,fun e=>c e.symm⟩,fun e=>h4 e.symm⟩
  subst e;obtain⟨i,hi⟩:=O2 hx;obtain⟨j,hj⟩:=O2 hy;exact hab (Ww hp (hLm a ha).1 (hLm b hb).1 (hLm a ha).2 (hLm b hb).2 (hi.trans hj.symm))
 have h1:=Eh (b:=List.range (es.length*2)) hnd fun x hx=>by
  obtain⟨a,ha,hx⟩:=A1R.1 hx;obtain⟨i,hi⟩:=O2 hx;rw[A1r,<-hi];exact Fx hp (hLm a ha).1 i
 rw[A2m] at h1;have h2:∀l:List Nat,3*l.length<=(l.flatMap (thr (CM fn))).length+l.countP fun x=>decide (CM fn (CM fn x)=x):=by
  intro l
  induction l with
  | nil=>simp
  | cons a l ih=>
   rw[A2K,A1V,A1Q,A2a];unfold thr at ih ⊢;by_cases c:CM fn (CM fn a)=a
   .simp only[c,if_true,decide_true];simp at ih ⊢;omega
   simp only[c,if_false,decide_false];simp at ih ⊢;omega
 have h3:L.countP (fun x=>decide (CM fn (CM fn x)=x))<=(List.range es.length).countP fun e=>decide (K2e fn e):=by
  rw[hL,List.countP_filter];refine OD (f:=fun h=>h / 2) (fun h hh hc=>?_) fun a b ha hb ca cb e=>?_
  .simp only[A1P,decide_eq_true_eq] at hc;have e1:=US hok hnx hh hc.1;have e2:=hc.2 1;rw[show De (CM fn) 1 h=CM fn h from rfl,e1] at e2;have hev:h%2=0:=by
    unfold twn at e2;split at e2
    .assumption
    omega
   have e3:twn h=h+1:=by unfold twn;rw[if_pos hev]
   have e4:twn (h+1)=h:=by rw[<-e3,Ju]
   have e5:=hc.1;rw[e1,e3] at e5;rw[e3] at e1;refine⟨by omega,?_⟩;simp only[decide_eq_true_eq];unfold K2e Qq;unfold CM at e1 e5;rw[e3] at e1;rw[e4] at e5;rw[show 2*(h / 2)=h by omega];exact⟨e5,e1⟩
  simp only[A1P,decide_eq_true_eq] at ca cb;have f:∀x,x<es.length*2->CM fn (CM fn x)=x->Cc (CM fn) x->x%2=0:=fun x hx h1 h2=>by
   have e2:=h2 1;rw[show De (CM fn) 1 x=CM fn x from rfl,US hok hnx hx h1] at e2;unfold twn at e2;split at e2
   .assumption
   omega
  have:=f a ha ca.1 ca.2;have:=f b hb cb.1 cb.2;omega
 have:=h2 L;omega
theorem Vc(hok:CO n es rs)(hnx:Dj rs rs.length fn){e u v:Nat}(he:es[e]? =some ((u:Int),(v:Int)))(hk:K2e fn e){a b:Nat}(hc:Dx es a b):(a=u\/a=v)↔(b=u\/b=v):=by
 have hV:=hok.1;have hlt:=(A1e.1 he).1;obtain⟨u',v',he',h1,h2,h3,h4⟩:=Jf hV hlt;rw[he] at he';simp only[Option.some.injEq,Prod.mk.injEq] at he';have e1:u=u':=by omega
 have e2:v=v':=by omega
 subst e1 e2;have key:∀x y:Nat,((x:Int),(y:Int))∈es->(x=u\/x=v\/y=u\/y=v)->(x=u/\y=v):=fun x y hm hor=>by
  obtain⟨i,hi⟩:=A1j.1 hm;have hil:=(A1e.1 hi).1;obtain⟨x',y',hi',g1,g2,g3,g4⟩:=Jf hV hil;rw[hi] at hi';simp only[Option.some.injEq,Prod.mk.injEq] at hi';have e1:x=x':=by omega
  have e2:y=y':=by omega
  subst e1 e2;have:i=e:=by
   rcases hor with rfl|rfl|rfl|rfl
   .have:=HY hok hnx (h:=2*e) (z:=2*i) (by omega) (by omega) (by rw[g3,h3]) hk.1;omega
   .have:=HY hok hnx (h:=2*e+1) (z:=2*i) (by omega) (by omega) (by rw[g3,h4]) hk.2;omega
   .have:=HY hok hnx (h:=2*e) (z:=2*i+1) (by omega) (by omega) (by rw[g4,h3]) hk.1;omega
   have:=HY hok hnx (h:=2*e+1) (z:=2*i+1) (by omega) (by omega) (by rw[g4,h4]) hk.2;omega
  subst this;rw[he] at hi;simp only[Option.some.injEq,Prod.mk.injEq] at hi;omega
 induction hc with
 | refl=>exact Iff.rfl
 | edge _ _ hm=>
  constructor
  .intro h;have:=key _ _ hm (by rcases h with h|h<;>simp[h]);exact .inr this.2
  intro h;have:=key _ _ hm (by rcases h with h|h<;>simp[h]);exact .inl this.1
 | symm _ ih=>exact ih.symm
 | trans _ _ ih1 ih2=>exact ih1.trans ih2
theorem Wq{a b:Nat}(ha:a<n)(hb:b<n)(hc:¬Dx es a b):2<=Fh n es:=by
 obtain⟨a1,a2,a3⟩:=Do es a;obtain⟨b1,b2,b3⟩:=Do es b;unfold Fh;rw[A2q];have:=Eh (a:=[Hi es a,Hi es b]) (b:=(List.range n).filter fun v=>decide (∀y,y<v->¬Dx es y v)) (by
  simp;intro e;rw[e] at a1;exact hc (a1.symm.trans b1)) fun x hx=>by
   simp at hx;rw[A1D,A1r];rcases hx with rfl|rfl
   .exact⟨by omega,by simpa using a2⟩
   exact⟨by omega,by simpa using b2⟩
 simpa using this
theorem YX(hok:CO n es rs)(hnx:Dj rs rs.length fn)(hfl:DJ n es fn=0)(h3:3<=n):es.length+6<=3*n:=by
 have hV:=hok.1;have h1:=Sb hok hnx;have h2:=Ve hV;have hk:(List.range es.length).countP (fun e=>decide (K2e fn e))<=(List.range n).countP fun v=>decide (∀y,y<v->¬Dx es y v)&&decide (Fr es (v:Nat)≠0):=by
  refine OD (f:=fun e=>((es[e]?).getD (0,0)).1.toNat) (fun e he hc=>?_) fun a b ha hb ca cb hab=>?_
  .simp only[decide_eq_true_eq] at hc;obtain⟨u,v,hx,g1,g2,g3,g4⟩:=Jf hV he;rw[hx];refine⟨by simp;omega,?_⟩;simp only[A2B,A1g,A1P,decide_eq_true_eq];refine⟨fun y hy hcn=>?_,(GN hV u).2 ⟨_,A1h hx,.inl J⟩⟩;have:=(Vc hok hnx hx hc hcn.symm).1 (.inl rfl);omega
  simp only[decide_eq_true_eq] at ca cb;obtain⟨u,v,hx,g1,g2,g3,g4⟩:=Jf hV ha;obtain⟨u',v',hx',g1',g2',g3',g4'⟩:=Jf hV hb;rw[hx,hx'] at hab;simp at hab;have:=HY hok hnx (h:=2*a) (z:=2*b) (by omega) (by omega) (by rw[g3,g3',hab]) ca.1;omega
 have hone:Fh n es<=1->∀a b,a<n->b<n->Dx es a b:=fun h a b ha hb=>Classical.byContradiction fun c=>by have:=Wq ha hb c;omega
 unfold DJ at hfl;by_cases c:2<=Fh n es
 .omega
 have hcn:=hone (by omega);have hi:NC n es=0:=by
  unfold NC;refine Hr fun v hv hc=>?_;have hvn:=A1r.1 hv;simp only[decide_eq_true_eq] at hc;rcases FO (hcn v (if v=0 then 1 else 0) hvn (by split<;>omega)) with e|⟨g,_⟩
  .split at e<;>omega
  exact(GN hV v).2 g hc
 have hk0:(List.range es.length).countP (fun e=>decide (K2e fn e))=0:=by
  refine Hr fun e he hc=>?_;have hel:=A1r.1 he;simp only[decide_eq_true_eq] at hc;obtain⟨u,v,hx,g1,g2,g3,g4⟩:=Jf hV hel;obtain⟨w,w0,w1,w2⟩:∃w,w<n/\w≠u/\w≠v:=by
   by_cases c0:u=0
   .by_cases c1:v=1
    .exact⟨2,by omega,by omega,by omega⟩
    exact⟨1,by omega,by omega,by omega⟩
   exact⟨0,by omega,by omega,by omega⟩
  have:=(Vc hok hnx hx hc (hcn u w (by omega) w0)).1 (.inl rfl);omega
 have:1<=Fh n es:=by
  unfold Fh;rw[A2q];exact A3m (a:=0) (A1D.2 ⟨A1r.2 (by omega),by simp⟩)
 omega
theorem WB{ls:List (List Int)}(hok:DD n es ls)(hfl:GS n es ls)(h3:3<=n):es.length+6<=3*n:=by
 obtain⟨rs,fn,h1,h2,h3'⟩:=hfl;exact YX (JC hok h1) h2 h3' h3
end
end
section
open Classical
def px{α:Type}(f:α->Bool):List α->Bool
 | []=>false
 | a::l=>f a !=px f l
section
variable{α:Type}{f g:α->Bool}
theorem X7:∀l l':List α,px f (l++l')=(px f l !=px f l')
 | [],l'=>by simp[px]
 | h::l,l'=>by rw[A1K,px,px,X7 l l'];simp
theorem Pi:∀l:List α,px (fun a=>f a !=g a) l=(px f l !=px g l)
 | []=>rfl
 | a::l=>by
  rw[px,px,px,Pi l];cases f a<;>cases g a<;>cases px f l<;>cases px g l<;>rfl
theorem Mg:∀{l:List α},(∀a,a∈l->f a=g a)->px f l=px g l
 | [],_=>rfl
 | a::l,h=>by rw[px,px,h a (by simp),Mg fun x hx=>h x (by simp[hx])]
theorem X6:∀l:List α,px f l=decide ((l.countP f)%2=1)
 | []=>rfl
 | h::l=>by
  rw[px,X6 l,A1Q];cases f h with
  | false=>simp
  | true=>
   rcases Nat.mod_two_eq_zero_or_one (l.countP f) with e|e
   .simp[e,show(l.countP f+1)%2=1 by omega]
   simp[e,show(l.countP f+1)%2=0 by omega]
theorem A0M{l:List α}(h:∀a,a∈l->f a=false):px f l=false:=by
 induction l with
 | nil=>rfl
 | cons a l ih=>rw[px,h a (by simp),ih fun x hx=>h x (by simp[hx])];rfl
theorem px_one{l:List α}{p:α}(hn:l.Nodup)(hp:p∈l)(h:∀a,a∈l->a≠p->f a=false)(e:px f l=false):f p=false:=by
 induction l with
 | nil=>cases hp
 | cons a l ih=>
  rw[A1Z] at hn;rw[px] at e;by_cases c:a=p
  .subst c;rw[A0M (fun x hx=>h x (by simp[hx]) fun e=>hn.1 (by rw[<-e];exact hx))] at e;simpa using e
  rw[h a (by simp) c] at e;exact ih hn.2 ((A1H.1 hp).resolve_left (Ne.symm c)) (fun x hx=>h x (by simp[hx])) (by simpa using e)
theorem A0N{l:List α}{nx:α->α}(h:∀i a,l[i]? =some a->l[(i+1)%l.length]? =some (nx a)):px (fun a=>f (nx a)) l=px f l:=by
 have e1:∀l:List α,px (fun a=>f (nx a)) l=px f (l.map nx):=fun l=>by
  induction l with
  | nil=>rfl
  | cons a l ih=>rw[A1M,px,px,ih]
 rw[e1];cases l with
 | nil=>rfl
 | cons a r=>
  have e2:(a::r).map nx=r++[a]:=by
   apply A2z;intro i;by_cases hi:i<(a::r).length
   .have h1:=A1d hi;have h2:=h i _ h1;rw[A1U,h1,A3M,<-h2];simp only[A2a] at hi ⊢;by_cases c:i<r.length
    .rw[A2y (by omega),A1o c];rfl
    have:i=r.length:=by omega
    subst this;rw[Nat.mod_self,A1p (A1F _),A3j];rfl
   rw[A1u (by simpa using hi),A1u (by simp at hi ⊢;omega)]
  rw[e2,X7];show((_:Bool) !=(f a !=false))=(f a !=px f r);cases f a<;>cases px f r<;>rfl
end
section
variable{n:Nat}{es:List Pr}{rs:List (List Int)}{fn:Nat->Int}{pa he oi:Int->Int}
theorem flat_pm(hok:CO n es rs)(hnx:Dj rs rs.length fn)(hfl:DJ n es fn=0)(hF:CD es pa he oi n):PM es (EX rs):=by
 have hR:=Lu hok;refine⟨hR,fun C hE=>?_⟩;have tt:∀k,tw k / 2=k / 2:=fun k=>by unfold tw;split<;>omega
 obtain⟨G,hG⟩:∃G:Nat->Nat->Bool,∀b,b<es.length->pa (AD es (oi b))≠oi b->(∀h,h<es.length*2->G b (CM fn h)=G b h)/\(∀e,e<es.length->e≠b->pa (AD es (oi e))≠oi e->G b (2*e)=G b (2*e+1))/\G b (2*b)≠G b (2*b+1):=by
  refine⟨fun b=>if h:b<es.length/\pa (AD es (oi b))≠oi b then Classical.choose (K4 hok hnx hfl hF h.1 h.2) else fun _=>false,fun b h1 h2=>?_⟩;dsimp only;rw[dif_pos ⟨h1,h2⟩];exact A2X (K4 hok hnx hfl hF h1 h2)
 obtain⟨L,hL⟩:∃L,L=(List.range es.length).filter fun(e:Nat)=>decide (pa (AD es (oi e))≠oi e)&&C e:=⟨_,rfl⟩;have hLm:∀e,e∈L↔e<es.length/\pa (AD es (oi e))≠oi e/\C e=true:=fun e=>by rw[hL,A1D,A1r];simp
 have hLn:L.Nodup:=by rw[hL];exact List.Nodup.sublist A1X A2f
 -- the colour ahead of a half-edge
 obtain⟨g,hg⟩:∃g:Nat->Bool,g=fun h=>px (fun b=>G b h) L:=⟨_,rfl⟩;have gface:∀h,h<es.length*2->g (CM fn h)=g h:=fun h hh=>by
  rw[hg];exact Mg fun b hb=>(hG b ((hLm b).1 hb).1 ((hLm b).1 hb).2.1).1 h hh
 have gover:∀e,e<es.length->pa (AD es (oi e))≠oi e->(g (2*e) !=g (2*e+1))=C e:=fun e he hek=>by
  rw[hg];dsimp only;rw[<-Pi];have key:∀l:List Nat,l.Nodup->(∀b,b∈l->b∈L)->px (fun b=>G b (2*e) !=G b (2*e+1)) l=decide (e∈l):=by
   intro l
   induction l with
   | nil=>intro _ _;rfl
   | cons b l ih=>
    intro hn hs;rw[A1Z] at hn;obtain⟨b1,b2,b3⟩:=(hLm b).1 (hs b (by simp));have hGb:=hG b b1 b2;rw[px,ih hn.2 fun x hx=>hs x (by simp[hx])];by_cases c:e=b
    .subst c;have h1:(G e (2*e) !=G e (2*e+1))=true:=by simpa using hGb.2.2
     rw[h1];simp[hn.1]
    have h1:=hGb.2.1 e he c hek;rw[h1];simp[c]
  rw[key L hLn fun _ h=>h];cases hc:C e with
  | true=>rw[decide_eq_true ((hLm e).2 ⟨he,hek,hc⟩)]
  | false=>rw[decide_eq_false fun h=>by have:=((hLm e).1 h).2.2;rw[hc] at this;cases this]
 have gnx:∀x,VH es x->g (Yy fn x).toNat=g (tw x).toNat:=fun x hx=>by
  rw[<-Ya hok hnx hx];exact gface _ (by have:=hx.tw.1;have:=hx.tw.2;omega)
 -- what is still wrong
 obtain⟨D,hD⟩:∃D:Int->Bool,D=fun x=>(g x.toNat !=g (tw x).toNat) !=C (x / 2):=⟨_,rfl⟩;have Dtw:∀x,D (tw x)=D x:=fun x=>by
  rw[hD];dsimp only;rw[DK,tt];cases g x.toNat<;>cases g (tw x).toNat<;>cases C (x / 2)<;>rfl
 have Dover:∀x,DO es pa oi x->D x=false:=fun x hx=>by
  have h0:=hx.1.1.1;have h1:=hx.1.1.2;have e:(((x / 2).toNat:Nat):Int)=x / 2:=by omega
  have:=gover (x / 2).toNat (by omega) (by rw[e,hx.1.2];exact hx.2);rw[e] at this;rw[hD];dsimp only;have key:(g x.toNat !=g (tw x).toNat)=C (x / 2):=by
   rw[<-this];unfold tw;split
   .rw[show x.toNat=2*(x / 2).toNat by omega,show(x+1).toNat=2*(x / 2).toNat+1 by omega]
   rw[show x.toNat=2*(x / 2).toNat+1 by omega,show(x-1).toNat=2*(x / 2).toNat by omega];cases g (2*(x / 2).toNat+1)<;>cases g (2*(x / 2).toNat)<;>rfl
  rw[key];simp
 have Dtree:∀v,0<=v->v<(n:Int)->(0<=pa v->D (pa v)=false):=by
  refine hF.ind fun v h0 h1 ih hp=>?_;obtain⟨a1,a2,_⟩:=hF.par h0 h1 hp;have hm:tw (pa v)∈EX rs v:=(hR.mem v _).2 ⟨a1.1.1.tw,by rw[BL a1.1.1,a2]⟩;have hall:∀x,x∈EX rs v->x≠tw (pa v)->D x=false:=fun x hx hne=>by
   obtain⟨x1,x2⟩:=(hR.mem v x).1 hx;rcases Ms hF x1 with ho|ho
   .by_cases ht:pa (AD es x)=x
    .have:=ih x ⟨ho,ht⟩ x2 (by rw[ht];exact x1.1);rw[ht] at this;exact this
    exact Dover x ⟨ho,ht⟩
   by_cases ht:pa (AD es (tw x))=tw x
   .exfalso;rw[Ef x1,x2] at ht;exact hne (by rw[ht,DK])
   rw[<-Dtw];exact Dover _ ⟨ho,ht⟩
  have hsum:px D (EX rs v)=false:=by
   rw[hD];rw[Pi,Pi];have e1:px (fun x:Int=>g (tw x).toNat) (EX rs v)=px (fun x:Int=>g (Yy fn x).toNat) (EX rs v):=Mg fun x hx=>(gnx x ((hR.mem v x).1 hx).1).symm;have e2:px (fun x:Int=>g (Yy fn x).toNat) (EX rs v)=px (fun x:Int=>g x.toNat) (EX rs v):=A0N (f:=fun x:Int=>g x.toNat) (nx:=Yy fn) fun i a hi=>PC hok hnx h0 h1 hi;have e3:px (fun x:Int=>C (x / 2)) (EX rs v)=false:=by
    have hperm:(EX rs v).Perm (Bs es v):=(A3F (hR.nodup v) (E0 v)).2 fun a=>by
     rw[hR.mem,Bb hF.val];exact⟨fun h=>⟨h.1.1,h.1.2,h.2⟩,fun h=>⟨⟨h.1,h.2.1⟩,h.2.2⟩⟩
    rw[X6,hperm.countP_eq,hE v];rfl
   rw[e1,e2,e3];simp
  have:=px_one (hR.nodup v) hm hall hsum;rw[Dtw] at this;exact this
 have Dall:∀x,VH es x->D x=false:=fun x hx=>by
  have key:∀x,DS es oi x->D x=false:=fun x ho=>by
   by_cases ht:pa (AD es x)=x
   .have r:=(hF.rng ho.1).2;have:=Dtree _ r.1 r.2 (by rw[ht];exact ho.1.1);rw[ht] at this;exact this
   exact Dover x ⟨ho,ht⟩
  rcases Ms hF hx with ho|ho
  .exact key x ho
  rw[<-Dtw];exact key _ ho
 refine⟨fun x=>g (tw x).toNat,fun h hh=>?_,fun v i h k hh hk=>?_⟩
 .have:=Dall h hh;rw[hD] at this;dsimp only at this ⊢;rw[DK];cases e1:g h.toNat<;>cases e2:g (tw h).toNat<;>cases e3:C (h / 2)<;>simp[e1,e2,e3] at this ⊢
 have hv:=(hR.mem v h).1 (A1h hh);have r:=(hF.rng hv.1).1;rw[hv.2] at r;have h1:=PC hok hnx r.1 r.2 hh;have hlt:=(A1e.1 hk).1;rw[A2y hlt,hk] at h1;have h2:=Option.some.inj h1;rw[DK,h2];exact gnx h hv.1
theorem WC{ls:List (List Int)}(hok:DD n es ls)(hfl:GS n es ls)(hF:CD es pa he oi n):∃rot,PM es rot:=by
 obtain⟨rs,fn,h1,h2,h3⟩:=hfl;exact⟨_,flat_pm (JC hok h1) h2 h3 hF⟩
end
end
section
open Classical
structure Qk (es:List Pr) (J:Nat->Nat->Prop) (br:Nat->Int) (X:Nat->Nat->Int) (wl:Nat->Nat->List Int):Prop where
 sym:∀{i j},J i j->J j i
 ne:∀{i j},J i j->i≠j
 inj:∀{i j k l},J i j->J k l->br i=br k->i=k
 wlk:∀{i j},J i j->NK es (X i j) (tw (X j i)) (wl i j)
 frm:∀{i j},J i j->Aj es (X i j)=br i
 nod:∀{i j},J i j->((wl i j).map (· / 2)).Nodup
 rev:∀{i j},J i j->∀e,GL (wl i j) e=GL (wl j i) e
 apart:∀{i j k l} {e:Int},J i j->J k l->GL (wl i j) e=true->GL (wl k l) e=true->(i=k/\j=l)\/(i=l/\j=k)
 atb:∀{i j k l} {h:Int},J i j->J k l->VH es h->Aj es h=br i->GL (wl k l) (h / 2)=true->(i=k/\h=X k l)\/(i=l/\h=X l k)
 inn:∀{i j k l} {x y:Int},J i j->J k l->x∈(wl i j).dropLast->VH es y->Aj es y=AD es x->GL (wl k l) (y / 2)=true->(k=i/\l=j)\/(k=j/\l=i)
 nxt:∀{i j} {x k:Int},J i j->x∈(wl i j).dropLast->k∈wl i j->Aj es k=AD es x->tw x≠k/\∀y,VH es y->Aj es y=AD es x->(GL (wl i j) (y / 2)=true↔y=tw x\/y=k)
def CP(wl:Nat->Nat->List Int)(P:List (Nat×Nat))(e:Int):Bool:=P.any fun p=>GL (wl p.1 p.2) e
theorem Jm{wl:Nat->Nat->List Int}{P:List (Nat×Nat)}{e:Int}:CP wl P e=true↔∃i j,(i,j)∈P/\GL (wl i j) e=true:=by
 unfold CP;rw[List.any_eq_true];constructor
 .rintro⟨⟨i,j⟩,h1,h2⟩;exact⟨i,j,h1,h2⟩
 rintro⟨i,j,h1,h2⟩;exact⟨(i,j),h1,h2⟩
section
variable{N:Int}{es:List Pr}{J:Nat->Nat->Prop}{br:Nat->Int}{X:Nat->Nat->Int}{wl:Nat->Nat->List Int}{rot:Int->List Int}{aft:Int->Bool}{P:List (Nat×Nat)}{i j k l:Nat}
theorem Qk.vh(hK:Qk es J br X wl)(h:J i j):VH es (X i j)/\GL (wl i j) (X i j / 2)=true:=
 ⟨(hK.wlk h).vh.1,Db.2 ⟨_,(hK.wlk h).vh.2.2.1,rfl⟩⟩
theorem Qk.to(hK:Qk es J br X wl)(h:J i j):AD es (tw (X j i))=br j:=by rw[Ef (hK.vh (hK.sym h)).1,hK.frm (hK.sym h)]
theorem Qk.X_ne(hK:Qk es J br X wl)(h:J i j)(h':J i k)(hne:j≠k):X i j≠X i k:=fun e=>by
 have h1:=(hK.vh h).2;rw[e] at h1;have:=hK.ne h;rcases hK.apart h h' h1 (hK.vh h').2 with⟨_,h2⟩|⟨h2,h3⟩
 .exact hne h2
 exact this h3.symm
structure Cyc (J:Nat->Nat->Prop) (P:List (Nat×Nat)):Prop where
 all:∀i j,(i,j)∈P->J i j
 one:P.Pairwise fun p q=>¬(p.1=q.1/\p.2=q.2)/\¬(p.1=q.2/\p.2=q.1)
theorem Qk.par(hV:BX N es)(hK:Qk es J br X wl):∀{P:List (Nat×Nat)},Cyc J P->∀v,Ld es (CP wl P) v=((P.map fun p=>(if v=br p.1 then 1 else 0)+(if v=br p.2 then 1 else 0)).sum)%2
 | [],_,v=>by simp[Ld,CP]
 | (i,j)::P,hP,v=>by
  have h1:=hP.one;rw[A2C] at h1;have hJ:=hP.all i j (by simp);have ih:=Qk.par hV hK (P:=P) ⟨fun a b h=>hP.all a b (by simp[h]),h1.2⟩ v;have e:CP wl ((i,j)::P)=fun e=>GL (wl i j) e !=CP wl P e:=by
   funext e;have e1:CP wl ((i,j)::P) e=(GL (wl i j) e||CP wl P e):=by simp[CP]
   rw[e1];cases c1:GL (wl i j) e with
   | false=>simp
   | true=>
    cases c2:CP wl P e with
    | false=>rfl
    | true=>
     obtain⟨a,b,h2,h3⟩:=Jm.1 c2;have h4:=h1.1 (a,b) h2;rcases hK.apart hJ (hP.all a b (by simp[h2])) c1 h3 with h5|h5
     .exact absurd h5 h4.1
     exact absurd h5 h4.2
  rw[e,Rg,ih,UE hV (hK.wlk hJ) (hK.nod hJ),hK.frm hJ,hK.to hJ];simp only[A1M,A2l];omega
theorem Qk.at_br(hK:Qk es J br X wl)(hP:Cyc J P)(hJ:J i j){h:Int}(hh:VH es h)(hb:Aj es h=br i):CP wl P (h / 2)=true↔∃k,((i,k)∈P\/(k,i)∈P)/\h=X i k:=by
 rw[Jm];constructor
 .rintro⟨a,b,h1,h2⟩;rcases hK.atb hJ (hP.all a b h1) hh hb h2 with⟨rfl,h3⟩|⟨rfl,h3⟩
  .exact⟨b,.inl h1,h3⟩
  exact⟨a,.inr h1,h3⟩
 rintro⟨k,h1|h1,rfl⟩
 .exact⟨i,k,h1,(hK.vh (hP.all _ _ h1)).2⟩
 have:=hK.sym (hP.all _ _ h1);exact⟨k,i,h1,by rw[hK.rev (hP.all _ _ h1)];exact(hK.vh this).2⟩
theorem Qk.walk_off(hK:Qk es J br X wl)(hP:Cyc J P)(hR:HL es rot)(hc:Xg es rot (CP wl P) aft)(hJ:J k l)(h1:(k,l)∉P)(h2:(l,k)∉P):aft (X l k)=aft (X k l):=by
 have:=hc.off hR (hK.wlk hJ) (fun x hx=>by
  cases c:CP wl P (x / 2) with
  | false=>rfl
  | true=>
   obtain⟨a,b,h3,h4⟩:=Jm.1 c;rcases hK.apart hJ (hP.all a b h3) (Db.2 ⟨x,hx,rfl⟩) h4 with⟨rfl,rfl⟩|⟨rfl,rfl⟩
   .exact absurd h3 h1
   exact absurd h3 h2) (fun x hx y hy hyx=>by
  cases c:CP wl P (y / 2) with
  | false=>rfl
  | true=>
   obtain⟨a,b,h3,h4⟩:=Jm.1 c;rcases hK.inn hJ (hP.all a b h3) hx hy hyx h4 with⟨rfl,rfl⟩|⟨rfl,rfl⟩
   .exact absurd h3 h1
   exact absurd h3 h2);rwa [DK] at this
theorem Qk.walk_on(hK:Qk es J br X wl)(hP:Cyc J P)(hR:HL es rot)(hc:Xg es rot (CP wl P) aft)(hJ:J k l)(h1:(k,l)∈P\/(l,k)∈P):aft (X l k)= !aft (X k l):=by
 have hed:∀e,GL (wl k l) e=true->CP wl P e=true:=fun e he=>by
  rcases h1 with h1|h1
  .exact Jm.2 ⟨k,l,h1,he⟩
  exact Jm.2 ⟨l,k,h1,by rw[<-hK.rev hJ];exact he⟩
 have h3:=hc.along hR (hK.wlk hJ) (fun x hx=>hed _ (Db.2 ⟨x,hx,rfl⟩)) (fun x k' hx hk' hxk=>by
  obtain⟨a1,a2⟩:=hK.nxt hJ hx hk' hxk;refine⟨a1,fun y hy hyx=>?_⟩;rw[<-a2 y hy hyx];constructor
  .intro c;obtain⟨a,b,h3,h4⟩:=Jm.1 c;rcases hK.inn hJ (hP.all a b h3) hx hy hyx h4 with⟨rfl,rfl⟩|⟨rfl,rfl⟩
   .exact h4
   rw[hK.rev hJ];exact h4
  exact hed _);have hv:=(hK.vh (hK.sym hJ)).1;have h4:=hc.fl1 hv (hed _ (by rw[hK.rev hJ];exact(hK.vh (hK.sym hJ)).2));rw[h3] at h4;rw[h4];simp
theorem Qk.alike(hK:Qk es J br X wl)(hP:Cyc J P)(hR:HL es rot)(hc:Xg es rot (CP wl P) aft)(hJ:J i j)(hJ':J i k)(h1:∀m,(i,m)∉P/\(m,i)∉P):aft (X i k)=aft (X i j):=
 hc.alike hR (hK.vh hJ).1 (hK.vh hJ').1 (hK.frm hJ) (hK.frm hJ') fun y hy hyx=>by
  cases c:CP wl P (y / 2) with
  | false=>rfl
  | true=>
   obtain⟨m,h2|h2,_⟩:=(hK.at_br hP hJ hy hyx).1 c
   .exact absurd h2 (h1 m).1
   exact absurd h2 (h1 m).2
theorem Qk.two(hK:Qk es J br X wl)(hP:Cyc J P)(hJ:J i j)(hJ':J i k)(hm:∀m,((i,m)∈P\/(m,i)∈P)↔m=j\/m=k):∀h,VH es h->Aj es h=br i->(CP wl P (h / 2)=true↔h=X i j\/h=X i k):=fun h hh hb=>by
 rw[hK.at_br hP hJ hh hb];constructor
 .rintro⟨m,h1,rfl⟩;rcases(hm m).1 h1 with rfl|rfl
  .exact .inl rfl
  exact .inr rfl
 rintro(rfl|rfl)
 .exact⟨j,(hm j).2 (.inl rfl),rfl⟩
 exact⟨k,(hm k).2 (.inr rfl),rfl⟩
theorem Qk.arc(hK:Qk es J br X wl)(hP:Cyc J P)(hR:HL es rot)(hc:Xg es rot (CP wl P) aft){m:Nat}(hJ:J i j)(hJ':J i k)(hJm:J i m)(hjk:j≠k)(h1:m≠j)(h2:m≠k)(hm:∀m,((i,m)∈P\/(m,i)∈P)↔m=j\/m=k):
  aft (X i m)=aft (X i j)↔MT (pos rot es (X i j)) (pos rot es (X i m)) (pos rot es (X i k)):=
 hc.arc hR (hK.vh hJ).1 (hK.vh hJ').1 (hK.vh hJm).1 (hK.frm hJ) (hK.frm hJ') (hK.frm hJm) (hK.X_ne hJ hJ' hjk) (hK.X_ne hJm hJ h1) (hK.X_ne hJm hJ' h2) (hK.two hP hJ hJ' hm)
theorem Qk.turn(hK:Qk es J br X wl)(hP:Cyc J P)(hR:HL es rot)(hc:Xg es rot (CP wl P) aft)(hJ:J i j)(hJ':J i k)(hjk:j≠k)(hm:∀m,((i,m)∈P\/(m,i)∈P)↔m=j\/m=k):aft (X i k)= !aft (X i j):=
 hc.two_ne hR (hK.vh hJ).1 (hK.vh hJ').1 (hK.frm hJ) (hK.frm hJ') (hK.X_ne hJ hJ' hjk) (hK.two hP hJ hJ' hm)
theorem Qk.pos_ne(hK:Qk es J br X wl)(hR:HL es rot)(hJ:J i j)(hJ':J i k)(hjk:j≠k):pos rot es (X i j)≠pos rot es (X i k):=
 hR.pos_ne (hK.vh hJ).1 (hK.vh hJ').1 (hK.frm hJ) (hK.frm hJ') (hK.X_ne hJ hJ' hjk)
def J5(i j:Nat):Prop:=i≠j/\i<5/\j<5
theorem Qk.five1(hV:BX N es)(hK:Qk es J5 br X wl)(hM:PM es rot){a b c d:Nat}(ha:0<a/\a<5)(hb:0<b/\b<5)(hc:0<c/\c<5)(hd:0<d/\d<5)(hac:a≠c)(hab:a≠b)(had:a≠d)(hbc:b≠c)(hcd:c≠d)(hbd:b≠d):
  MT (pos rot es (X 0 a)) (pos rot es (X 0 b)) (pos rot es (X 0 c))↔MT (pos rot es (X 0 a)) (pos rot es (X 0 d)) (pos rot es (X 0 c)):=by
 have hJ:∀{i j},i≠j->i<5->j<5->J5 i j:=fun h1 h2 h3=>⟨h1,h2,h3⟩;have hP:Cyc J5 [(0,a),(a,c),(c,0)]:=⟨fun i j h=>by
  simp at h;rcases h with⟨rfl,rfl⟩|⟨rfl,rfl⟩|⟨rfl,rfl⟩<;>exact hJ (by omega) (by omega) (by omega),by simp;omega⟩;have hE:Evn es (CP wl [(0,a),(a,c),(c,0)]):=fun v=>by
  have:=hK.par hV hP v;unfold Ld at this;rw[this];simp only[A1M,A3I,A2l,List.sum_nil]
  repeat' split
  all_goals omega
 obtain⟨aft,hcol⟩:=hM.col _ hE;have hR:=hM.rg;have hm:∀m,((0,m)∈[(0,a),(a,c),(c,0)]\/(m,0)∈[(0,a),(a,c),(c,0)])↔m=a\/m=c:=fun m=>by simp;omega
 have e1:=hK.arc hP hR hcol (i:=0) (j:=a) (k:=c) (m:=b) (hJ (by omega) (by omega) (by omega)) (hJ (by omega) (by omega) (by omega)) (hJ (by omega) (by omega) (by omega)) hac (Ne.symm hab) hbc hm;have e2:=hK.arc hP hR hcol (i:=0) (j:=a) (k:=c) (m:=d) (hJ (by omega) (by omega) (by omega)) (hJ (by omega) (by omega) (by omega)) (hJ (by omega) (by omega) (by omega)) hac (Ne.symm had) (Ne.symm hcd) hm;have n1:∀m,(b,m)∉[(0,a),(a,c),(c,0)]/\(m,b)∉[(0,a),(a,c),(c,0)]:=fun m=>by simp;omega
 have n2:∀m,(d,m)∉[(0,a),(a,c),(c,0)]/\(m,d)∉[(0,a),(a,c),(c,0)]:=fun m=>by simp;omega
 have s1:=hK.walk_off hP hR hcol (k:=0) (l:=b) (hJ (by omega) (by omega) (by omega)) (n1 0).2 (n1 0).1;have s2:=hK.alike hP hR hcol (i:=b) (j:=0) (k:=d) (hJ (by omega) (by omega) (by omega)) (hJ (by omega) (by omega) (by omega)) n1;have s3:=hK.walk_off hP hR hcol (k:=b) (l:=d) (hJ (by omega) (by omega) (by omega)) (n1 d).1 (n1 d).2;have s4:=hK.alike hP hR hcol (i:=d) (j:=b) (k:=0) (hJ (by omega) (by omega) (by omega)) (hJ (by omega) (by omega) (by omega)) n2;have s5:=hK.walk_off hP hR hcol (k:=d) (l:=0) (hJ (by omega) (by omega) (by omega)) (n2 0).1 (n2 0).2;rw[<-e1,<-e2,s5,s4,s3,s2,s1]
theorem Qk.five(hV:BX N es)(hK:Qk es J5 br X wl)(hM:PM es rot):False:=by
 have h1:=hK.five1 hV hM (a:=1) (c:=2) (b:=3) (d:=4) (by omega) (by omega) (by omega) (by omega) (by omega) (by omega) (by omega) (by omega) (by omega) (by omega);have h2:=hK.five1 hV hM (a:=1) (c:=3) (b:=2) (d:=4) (by omega) (by omega) (by omega) (by omega) (by omega) (by omega) (by omega) (by omega) (by omega) (by omega);have h3:=hK.five1 hV hM (a:=1) (c:=4) (b:=2) (d:=3) (by omega) (by omega) (by omega) (by omega) (by omega) (by omega) (by omega) (by omega) (by omega) (by omega);have n:∀{i j},0<i->i<5->0<j->j<5->i≠j->pos rot es (X 0 i)≠pos rot es (X 0 j):=fun{i j} a b c d e=>hK.pos_ne hM.rg (i:=0) ⟨by omega,by omega,b⟩ ⟨by omega,by omega,d⟩ e;have n12:=n (i:=1) (j:=2) (by omega) (by omega) (by omega) (by omega) (by omega);have n13:=n (i:=1) (j:=3) (by omega) (by omega) (by omega) (by omega) (by omega);have n14:=n (i:=1) (j:=4) (by omega) (by omega) (by omega) (by omega) (by omega);have n23:=n (i:=2) (j:=3) (by omega) (by omega) (by omega) (by omega) (by omega);have n24:=n (i:=2) (j:=4) (by omega) (by omega) (by omega) (by omega) (by omega);have n34:=n (i:=3) (j:=4) (by omega) (by omega) (by omega) (by omega) (by omega);unfold MT at h1 h2 h3;omega
def Xo(i j:Nat):Prop:=(i<3/\3<=j/\j<6)\/(j<3/\3<=i/\i<6)
theorem Vt{a b c:Nat}:MT a b c↔MT b c a:=by unfold MT;omega
theorem Sj{a b c:Nat}(h1:a≠b)(h2:b≠c)(h3:a≠c):MT a c b↔¬MT a b c:=by unfold MT;omega
theorem Qk.six1(hV:BX N es)(hK:Qk es Xo br X wl)(hM:PM es rot){p q:Nat}(hp:3<=p/\p<6)(hq:3<=q/\q<6)(hpq:p≠q):
  MT (pos rot es (X p 0)) (pos rot es (X p 1)) (pos rot es (X p 2))↔¬MT (pos rot es (X q 0)) (pos rot es (X q 1)) (pos rot es (X q 2)):=by
 have hJ:∀{i j},i<3->3<=j->j<6->Xo i j:=fun h1 h2 h3=>.inl ⟨h1,h2,h3⟩;have hJ':∀{i j},i<3->3<=j->j<6->Xo j i:=fun h1 h2 h3=>.inr ⟨h1,h2,h3⟩;have hP:Cyc Xo [(0,p),(p,1),(1,q),(q,0)]:=⟨fun i j h=>by
  simp at h;rcases h with⟨rfl,rfl⟩|⟨rfl,rfl⟩|⟨rfl,rfl⟩|⟨rfl,rfl⟩
  .exact hJ (by omega) hp.1 hp.2
  .exact hJ' (by omega) hp.1 hp.2
  .exact hJ (by omega) hq.1 hq.2
  exact hJ' (by omega) hq.1 hq.2,by simp;omega⟩;have hE:Evn es (CP wl [(0,p),(p,1),(1,q),(q,0)]):=fun v=>by
  have:=hK.par hV hP v;unfold Ld at this;rw[this];simp only[A1M,A3I,A2l,List.sum_nil]
  repeat' split
  all_goals omega
 obtain⟨aft,hcol⟩:=hM.col _ hE;have hR:=hM.rg;have mp:∀m,((p,m)∈[(0,p),(p,1),(1,q),(q,0)]\/(m,p)∈[(0,p),(p,1),(1,q),(q,0)])↔m=1\/m=0:=fun m=>by simp;omega
 have mq:∀m,((q,m)∈[(0,p),(p,1),(1,q),(q,0)]\/(m,q)∈[(0,p),(p,1),(1,q),(q,0)])↔m=0\/m=1:=fun m=>by simp;omega
 have mq':∀m,((q,m)∈[(0,p),(p,1),(1,q),(q,0)]\/(m,q)∈[(0,p),(p,1),(1,q),(q,0)])↔m=1\/m=0:=fun m=>by simp;omega
 have m1:∀m,((1,m)∈[(0,p),(p,1),(1,q),(q,0)]\/(m,1)∈[(0,p),(p,1),(1,q),(q,0)])↔m=p\/m=q:=fun m=>by simp;omega
 have n2:∀m,(2,m)∉[(0,p),(p,1),(1,q),(q,0)]/\(m,2)∉[(0,p),(p,1),(1,q),(q,0)]:=fun m=>by simp;omega
 have e1:=hK.arc hP hR hcol (i:=p) (j:=1) (k:=0) (m:=2) (hJ' (by omega) hp.1 hp.2) (hJ' (by omega) hp.1 hp.2) (hJ' (by omega) hp.1 hp.2) (by omega) (by omega) (by omega) mp;have e2:=hK.arc hP hR hcol (i:=q) (j:=0) (k:=1) (m:=2) (hJ' (by omega) hq.1 hq.2) (hJ' (by omega) hq.1 hq.2) (hJ' (by omega) hq.1 hq.2) (by omega) (by omega) (by omega) mq;have t1:=hK.walk_on hP hR hcol (k:=p) (l:=1) (hJ' (by omega) hp.1 hp.2) (.inl (by simp));have t2:=hK.turn hP hR hcol (i:=1) (j:=p) (k:=q) (hJ (by omega) hp.1 hp.2) (hJ (by omega) hq.1 hq.2) hpq m1;have t3:=hK.walk_on hP hR hcol (k:=1) (l:=q) (hJ (by omega) hq.1 hq.2) (.inl (by simp));have t4:=hK.turn hP hR hcol (i:=q) (j:=1) (k:=0) (hJ' (by omega) hq.1 hq.2) (hJ' (by omega) hq.1 hq.2) (by omega) mq';have t:aft (X q 0)=aft (X p 1):=by rw[t4,t3,t2,t1];simp
 have s1:=hK.walk_off hP hR hcol (k:=p) (l:=2) (hJ' (by omega) hp.1 hp.2) (n2 p).2 (n2 p).1;have s2:=hK.alike hP hR hcol (i:=2) (j:=p) (k:=q) (hJ (by omega) hp.1 hp.2) (hJ (by omega) hq.1 hq.2) n2;have s3:=hK.walk_off hP hR hcol (k:=2) (l:=q) (hJ (by omega) hq.1 hq.2) (n2 q).1 (n2 q).2;have s:aft (X q 2)=aft (X p 2):=by rw[s3,s2,s1]
 rw[s,t] at e2;have key:=e1.symm.trans e2;have np:∀{i j},i<3->j<3->i≠j->pos rot es (X p i)≠pos rot es (X p j):=fun a b c=>hK.pos_ne hR (hJ' a hp.1 hp.2) (hJ' b hp.1 hp.2) c;have nq:∀{i j},i<3->j<3->i≠j->pos rot es (X q i)≠pos rot es (X q j):=fun a b c=>hK.pos_ne hR (hJ' a hq.1 hq.2) (hJ' b hq.1 hq.2) c;rw[Vt (a:=pos rot es (X p 0)),key,Sj (nq (by omega) (by omega) (by omega)) (nq (by omega) (by omega) (by omega)) (nq (by omega) (by omega) (by omega))]
theorem Qk.six(hV:BX N es)(hK:Qk es Xo br X wl)(hM:PM es rot):False:=by
 have h1:=hK.six1 hV hM (p:=3) (q:=4) (by omega) (by omega) (by omega);have h2:=hK.six1 hV hM (p:=4) (q:=5) (by omega) (by omega) (by omega);have h3:=hK.six1 hV hM (p:=3) (q:=5) (by omega) (by omega) (by omega);by_cases c:MT (pos rot es (X 3 0)) (pos rot es (X 3 1)) (pos rot es (X 3 2))
 .exact h3.1 c (Classical.byContradiction fun h=>(h1.1 c) (h2.2 h))
 have a:=Classical.byContradiction fun h=>c (h1.2 h);exact(h2.1 a) (Classical.byContradiction fun h=>c (h3.2 h))
end
end
section
open Classical
section
variable{N:Int}{es:List Pr}{h x y:Int}
noncomputable def HK(es:List Pr)(h:Int):Int:=wI es h (Cb es h)
theorem A0V(hV:BX N es)(hh:VH es h)(hd:Cg es (AD es h)=2):Gd es (tw (Gd es h))=tw h:=by
 obtain⟨a1,a2,a3,a4,a5⟩:=DU hV hh hd;have hd':Cg es (AD es (tw (Gd es h)))=2:=by rw[Ef a1,a2];exact hd
 obtain⟨b1,b2,b3,b4,b5⟩:=DU hV a1.tw hd';rw[Ef a1,a2] at b4;rw[DK] at b3;exact(a5 _ b4).resolve_left b3
theorem OU(es:List Pr)(h:Int)(a:Nat):∀b,wI es h (a+b)=wI es (wI es h a) b
 | 0=>rfl
 | b+1=>by
  show Gd es (wI es h (a+b))=Gd es _;rw[OU es h a b]
theorem Kp(hV:BX N es)(hh:VH es h):∀k,k<=Cb es h->wI es (tw (HK es h)) k=tw (wI es h (Cb es h-k))
 | 0,_=>rfl
 | k+1,hk=>by
  have hw:=(BI hV hh).way;show Gd es (wI es (tw (HK es h)) k)=_;rw[Kp hV hh k (by omega)];obtain⟨m,hm⟩:∃m,Cb es h-k=m+1:=⟨Cb es h-k-1,by omega⟩;rw[hm,show Cb es h-(k+1)=m by omega];exact A0V hV (hw.all hV m (by omega)) (hw.cont m (by omega)).1
theorem X2(hV:BX N es)(hh:VH es h){k:Nat}(hk:k<Cb es h):Cg es (AD es (wI es (tw (HK es h)) k))=2:=by
 have hw:=(BI hV hh).way;rw[Kp hV hh k (by omega),Ef (hw.all hV _ (by omega))];obtain⟨m,hm⟩:∃m,Cb es h-k=m+1:=⟨Cb es h-k-1,by omega⟩;rw[hm,hw.link hV (by omega)];exact(hw.cont m (by omega)).1
theorem TK(hV:BX N es)(hh:VH es h):VH es (HK es h):=(BI hV hh).way.all hV _ (A1F _)
structure Bd (es:List Pr) (x:Int):Prop where
 vh:VH es x
 fr:Cg es (Aj es x)≠2
 to:Cg es (AD es (HK es x))≠2
theorem VA(hV:BX N es)(hh:VH es h)(h1:Cg es (AD es (HK es h))≠2)(h2:Cg es (AD es (HK es (tw h)))≠2):
  Bd es (tw (HK es h))/\Aj es (tw (HK es h))=AD es (HK es h)/\AD es (HK es (tw (HK es h)))=AD es (HK es (tw h))/\Cb es (tw (HK es h))=Cb es h+Cb es (tw h):=by
 have hl:=TK hV hh;have hw2:=BI hV hh.tw;have hT:wI es (tw (HK es h)) (Cb es h)=tw h:=by rw[Kp hV hh _ (A1F _),A3j];rfl
 have hfr:=BL hl;have hs:Ke es (tw (HK es h)) (Cb es h+Cb es (tw h)):=by
  refine⟨⟨hl.tw,fun i hi=>?_⟩,?_⟩
  .have hd:Cg es (AD es (wI es (tw (HK es h)) i))=2:=by
    by_cases c:i<Cb es h
    .exact X2 hV hh c
    obtain⟨k,rfl⟩:∃k,i=Cb es h+k:=⟨i-Cb es h,by omega⟩;rw[OU,hT];exact(hw2.way.cont k (by omega)).1
   exact⟨hd,fun e=>h1 (by rw[<-hfr,<-e];exact hd)⟩
  rw[OU,hT];exact fun hc=>h2 hc.1
 have ht:=Lp hs;have hlst:HK es (tw (HK es h))=HK es (tw h):=by
  show wI es _ (Cb es _)=_;rw[ht,OU,hT];rfl
 exact⟨⟨hl.tw,by rw[hfr];exact h1,by rw[hlst];exact h2⟩,hfr,by rw[hlst],ht⟩
theorem Bd.rev(hV:BX N es)(hx:Bd es x):Cb es (tw (HK es x))=Cb es x/\HK es (tw (HK es x))=tw x/\Bd es (tw (HK es x)):=by
 have hl:=TK hV hx.vh;have hfr:=BL hl;have hT:wI es (tw (HK es x)) (Cb es x)=tw x:=by rw[Kp hV hx.vh _ (A1F _),A3j];rfl
 have hs:Ke es (tw (HK es x)) (Cb es x):=by
  refine⟨⟨hl.tw,fun i hi=>?_⟩,?_⟩
  .have hd:=X2 hV hx.vh hi;exact⟨hd,fun e=>hx.to (by rw[<-hfr,<-e];exact hd)⟩
  rw[hT];exact fun hc=>hx.fr (by rw[<-Ef hx.vh];exact hc.1)
 have ht:=Lp hs;have hlst:HK es (tw (HK es x))=tw x:=by
  show wI es _ (Cb es _)=_;rw[ht,hT]
 exact⟨ht,hlst,⟨hl.tw,by rw[hfr];exact hx.to,by rw[hlst,Ef hx.vh];exact hx.fr⟩⟩
theorem Bd.from_deg(hV:BX N es)(hx:Bd es x){a:Nat}(ha:a<Cb es x):Cg es (Aj es (wI es x (a+1)))=2:=by
 have hw:=(BI hV hx.vh).way;rw[hw.link hV ha];exact(hw.cont a ha).1
theorem Bd.same(hV:BX N es)(hx:Bd es x)(hy:Bd es y):∀a b,a<=Cb es x->b<=Cb es y->wI es x a=wI es y b->x=y
 | 0,0,_,_,e=>e
 | 0,b+1,_,hb,e=>by
  have:=hy.from_deg hV (a:=b) (by omega);rw[<-e] at this;exact absurd this hx.fr
 | a+1,0,ha,_,e=>by
  have:=hx.from_deg hV (a:=a) (by omega);rw[e] at this;exact absurd this hy.fr
 | a+1,b+1,ha,hb,e=>by
  have w1:=(BI hV hx.vh).way;have w2:=(BI hV hy.vh).way;exact hx.same hV hy a b (by omega) (by omega) (U2 hV (w1.all hV a (by omega)) (w2.all hV b (by omega)) (w1.cont a (by omega)).1 (w2.cont b (by omega)).1 e)
theorem IA{h k:Int}(e:h / 2=k / 2):h=k\/h=tw k:=by unfold tw;split<;>omega
theorem Bd.apart(hV:BX N es)(hx:Bd es x)(hy:Bd es y){a b:Nat}(ha:a<=Cb es x)(hb:b<=Cb es y)(e:wI es x a / 2=wI es y b / 2):x=y\/x=tw (HK es y):=by
 rcases IA e with h1|h1
 .exact .inl (hx.same hV hy a b ha hb h1)
 right;obtain⟨r1,r2,r3⟩:=hy.rev hV;refine hx.same hV r3 a (Cb es y-b) ha (by rw[r1];omega) ?_;rw[h1,Kp hV hy.vh _ (by omega),show Cb es y-(Cb es y-b)=b by omega]
theorem Xv{l:List Int}(hl:Lk es l)(ha:NO es l):∀{x z:Int},l.head? =some x->l.getLast? =some z->NK es x z l:=by
 induction l with
 | nil=>intro x z h;simp at h
 | cons a r ih=>
  intro x z hx hz;simp at hx;subst hx;cases r with
  | nil=>simp at hz;subst hz;exact .one (ha _ (by simp))
  | cons b r'=>
   refine .cons (ha _ (by simp)) (hl 0 a b rfl rfl) (ih (fun i x y h1 h2=>hl (i+1) x y (by simpa using h1) (by simpa using h2)) (fun x hx=>ha x (by simp[hx])) rfl ?_);rw[List.getLast?_cons_cons] at hz;exact hz
theorem A0s(hV:BX N es)(hx:VH es x):NK es x (HK es x) (BZ es x):=by
 have hw:=(BI hV hx).way;refine Xv (LU hV hw) (GW hV hw) ?_ ?_
 .rw[A3J];exact FT x
 exact GX x
theorem LF{z:Int}:z∈BZ es x↔∃a,a<=Cb es x/\z=wI es x a:=by
 unfold BZ GA;rw[A1G];constructor
 .rintro⟨a,ha,rfl⟩;exact⟨a,by have:=A1r.1 ha;omega,rfl⟩
 rintro⟨a,ha,rfl⟩;exact⟨a,A1r.2 (by omega),rfl⟩
theorem JK{z:Int}(hz:z∈(BZ es x).dropLast):∃a,a<Cb es x/\z=wI es x a:=by
 unfold BZ GA at hz;rw[A2p,A1Y,List.map_singleton,List.dropLast_concat] at hz;obtain⟨a,ha,rfl⟩:=A1G.1 hz;exact⟨a,A1r.1 ha,rfl⟩
theorem A0t(hV:BX N es)(hx:VH es x):((BZ es x).map (· / 2)).Nodup:=by
 have hw:=(BI hV hx).way;unfold BZ GA List.Nodup;rw[A2b,A2b,A2t];intro i j hi hj hij;simp only[A2m] at hi hj;simp only[List.getElem_range];intro e;rcases IA e with h1|h1
 .exact hw.ne hV i j hij (by omega) h1
 exact hw.ne_tw hV (a:=i) (b:=j) (by omega) (by omega) h1
theorem Wp:∀{l m:List Int},l.Nodup->(∀x,x∈l->x∈m)->m.length<=l.length->m.Nodup->∀x,x∈m->x∈l:=by
 intro l m hl hs hlen hm x hx;apply Classical.byContradiction;intro hn;have:=E2 (a:=x::l) (b:=m) (A1Z.2 ⟨hn,hl⟩) (fun y hy=>by
  rcases A1H.1 hy with rfl|hy
  .exact hx
  exact hs y hy);simp at this;omega
theorem YG(hV:BX N es){J:Nat->Nat->Prop}{n d:Nat}{br:Nat->Int}(hsym:∀{i j},J i j->J j i)(hne:∀{i j},J i j->i≠j)(hlt:∀{i j},J i j->i<n)
 (hcnt:∀i,i<n->((List.range n).filter fun j=>decide (J i j)).length=d)(hd:d≠2)(hinj:∀i j,i<n->j<n->br i=br j->i=j)(hdeg:∀i,i<n->Cg es (br i)=d)
 (hex:∀i j,J i j->∃x,Bd es x/\Aj es x=br i/\AD es (HK es x)=br j):∃X wl,Qk es J br X wl:=by
 obtain⟨X,hX⟩:∃X:Nat->Nat->Int,∀i j,J i j->Bd es (X i j)/\Aj es (X i j)=br i/\AD es (HK es (X i j))=br j:=by
  refine⟨fun i j=>if h:J i j then Classical.choose (hex i j h) else 0,fun i j h=>?_⟩;dsimp only;rw[dif_pos h];exact A2X (hex i j h)
 have hXne:∀{i j k},J i j->J i k->j≠k->X i j≠X i k:=fun{i j k} h1 h2 h3 e=>by
  have e1:=(hX i j h1).2.2;rw[e,(hX i k h2).2.2] at e1;exact h3 (hinj k j (hlt (hsym h2)) (hlt (hsym h1)) e1).symm
 -- all half-edges at a branch vertex
 have hall:∀i,i<n->∀x,VH es x->Aj es x=br i->∃j,J i j/\x=X i j:=by
  intro i hi x hx hxi;have hl:(((List.range n).filter fun j=>decide (J i j)).map (X i)).Nodup:=by
   unfold List.Nodup;rw[A2b];have:((List.range n).filter fun j=>decide (J i j)).Nodup:=List.Nodup.sublist A1X A2f;refine this.imp_of_mem fun{a b} ha hb hab=>?_;exact hXne (by simpa using (A1D.1 ha).2) (by simpa using (A1D.1 hb).2) hab
  have:=Wp hl (m:=Bs es (br i)) (fun x hx=>by
   obtain⟨j,hj,rfl⟩:=A1G.1 hx;have hJ:J i j:=by simpa using (A1D.1 hj).2
   have h1:=hX i j hJ;exact(Bb hV).2 ⟨h1.1.vh.1,h1.1.vh.2,h1.2.1⟩) (by rw[A1S,hcnt i hi];have:=hdeg i hi;unfold Cg at this;omega) (E0 _) x ((Bb hV).2 ⟨hx.1,hx.2,hxi⟩);obtain⟨j,hj,rfl⟩:=A1G.1 this;exact⟨j,by simpa using (A1D.1 hj).2,rfl⟩
 have hrev:∀{i j},J i j->tw (HK es (X i j))=X j i:=fun{i j} h=>by
  obtain⟨h1,h2,h3⟩:=hX i j h;obtain⟨r1,r2,r3⟩:=h1.rev hV;have hl:=TK hV h1.vh;obtain⟨k,hk,e⟩:=hall j (hlt (hsym h)) _ hl.tw (by rw[BL hl,h3]);have e1:=(hX j k hk).2.2;rw[<-e,r2,Ef h1.vh,h2] at e1;have:=hinj i k (hlt h) (hlt (hsym hk)) e1;rw[e,this]
 have hlst:∀{i j},J i j->HK es (X i j)=tw (X j i):=fun{i j} h=>by rw[<-hrev h,DK]
 have two:∀{i j k l a b},J i j->J k l->a<=Cb es (X i j)->b<=Cb es (X k l)->wI es (X i j) a / 2=wI es (X k l) b / 2->(i=k/\j=l)\/(i=l/\j=k):=by
  intro i j k l a b h1 h2 ha hb e;have key:∀{k l},J k l->X i j=X k l->i=k/\j=l:=fun{k l} h2 e=>by
   have e1:=(hX i j h1).2;rw[e] at e1;have e2:=(hX k l h2).2;rw[e2.1,e2.2] at e1;exact⟨(hinj k i (hlt h2) (hlt h1) e1.1).symm,(hinj l j (hlt (hsym h2)) (hlt (hsym h1)) e1.2).symm⟩
  rcases(hX i j h1).1.apart hV (hX k l h2).1 ha hb e with e|e
  .exact .inl (key h2 e)
  rw[hrev h2] at e;exact .inr (key (hsym h2) e)
 have mem:∀{i j e},GL (BZ es (X i j)) e=true↔∃a,a<=Cb es (X i j)/\wI es (X i j) a / 2=e:=fun{i j e}=>by
  rw[Db];constructor
  .rintro⟨z,hz,h⟩;obtain⟨a,ha,rfl⟩:=LF.1 hz;exact⟨a,ha,h⟩
  rintro⟨a,ha,h⟩;exact⟨_,LF.2 ⟨a,ha,rfl⟩,h⟩
 have revm:∀{i j},J i j->∀e,GL (BZ es (X i j)) e=true->GL (BZ es (X j i)) e=true:=fun{i j} h e he=>by
  obtain⟨a,ha,rfl⟩:=mem.1 he;have r:=(hX i j h).1.rev hV;rw[hrev h] at r;refine mem.2 ⟨Cb es (X i j)-a,by rw[r.1];omega,?_⟩;have:=Kp hV (hX i j h).1.vh (Cb es (X i j)-a) (by omega);rw[hrev h,show Cb es (X i j)-(Cb es (X i j)-a)=a by omega] at this;rw[this];unfold tw;split<;>omega
 refine⟨X,fun i j=>BZ es (X i j),⟨hsym,hne,fun h1 h2 e=>hinj _ _ (hlt h1) (hlt h2) e,fun h=>?_,fun h=>(hX _ _ h).2.1,fun h=>A0t hV (hX _ _ h).1.vh,fun h e=>?_,fun h1 h2 e1 e2=>?_,fun{i j k l x} h1 h2 hx hxi e=>?_,fun{i j k l x y} h1 h2 hx hy hyx e=>?_,fun{i j x k} h hx hk hkx=>?_⟩⟩
 .rw[<-hlst h];exact A0s hV (hX _ _ h).1.vh
 .rw[A3a];exact⟨revm h e,revm (hsym h) e⟩
 .obtain⟨a,ha,e3⟩:=mem.1 e1;obtain⟨b,hb,e4⟩:=mem.1 e2;exact two h1 h2 ha hb (by rw[e3,e4])
 .obtain⟨a,ha,e3⟩:=mem.1 e;have hb:=(hX k l h2).1;have dg:Cg es (Aj es x)≠2:=by rw[hxi,hdeg i (hlt h1)];exact hd
  rcases IA e3 with f|f
  .cases a with
   | zero=>
    have f':x=X k l:=f.symm;left;have e5:=(hX k l h2).2.1;rw[<-f',hxi] at e5;exact⟨hinj i k (hlt h1) (hlt h2) e5,f'⟩
   | succ a=>
    have:=hb.from_deg hV (a:=a) (by omega);rw[f] at this;exact absurd this dg
  have hw:=(BI hV hb.vh).way;have hva:=hw.all hV a ha;have f':x=tw (wI es (X k l) a):=by rw[f,DK]
  by_cases c:a<Cb es (X k l)
  .exfalso;rw[f',BL hva] at dg;exact dg (hw.cont a c).1
  have:a=Cb es (X k l):=by omega
  subst this;have f2:x=X l k:=by rw[f'];exact hrev h2
  right;have e5:=(hX l k (hsym h2)).2.1;rw[<-f2,hxi] at e5;exact⟨hinj i l (hlt h1) (hlt (hsym h2)) e5,f2⟩
 .obtain⟨a,ha,rfl⟩:=JK hx;obtain⟨b,hb,e3⟩:=mem.1 e;have hw:=(BI hV (hX i j h1).1.vh).way;have hva:=hw.all hV a (by omega);have sp:=(DU hV hva (hw.cont a ha).1).2.2.2.2 y ((Bb hV).2 ⟨hy.1,hy.2,hyx⟩);have:(i=k/\j=l)\/(i=l/\j=k):=by
   rcases sp with f|f
   .exact two h1 h2 (a:=a+1) (by omega) hb (by rw[e3,f];rfl)
   exact two h1 h2 (a:=a) (by omega) hb (by rw[e3,f];unfold tw;split<;>omega)
  rcases this with⟨rfl,rfl⟩|⟨rfl,rfl⟩
  .exact .inl ⟨rfl,rfl⟩
  exact .inr ⟨rfl,rfl⟩
 obtain⟨a,ha,rfl⟩:=JK hx;have hw:=(BI hV (hX i j h).1.vh).way;have hva:=hw.all hV a (by omega);have sp:=DU hV hva (hw.cont a ha).1;have hkv:VH es k:=by
  obtain⟨b,hb,rfl⟩:=LF.1 hk;exact hw.all hV b hb
 obtain⟨b,hb,rfl⟩:=LF.1 hk;have hk2:wI es (X i j) b=wI es (X i j) (a+1):=by
  rcases sp.2.2.2.2 _ ((Bb hV).2 ⟨hkv.1,hkv.2,hkx⟩) with f|f
  .exact f
  exact absurd f (hw.ne_tw hV hb (by omega))
 refine⟨fun e=>hw.ne_tw hV hb (by omega:a<=_) e.symm,fun y hy hyx=>?_⟩;rw[hk2];constructor
 .intro _;rcases sp.2.2.2.2 y ((Bb hV).2 ⟨hy.1,hy.2,hyx⟩) with f|f
  .exact .inr f
  exact .inl f
 rintro(rfl|rfl)
 .exact mem.2 ⟨a,by omega,by unfold tw;split<;>omega⟩
 exact mem.2 ⟨a+1,by omega,rfl⟩
end
end
section
open Classical
noncomputable def LI(es cs:List Pr)(h:Int):Int:=if e:∃k,CZ es (Aj cs h) (AD cs h) k then Classical.choose e else 0
section
variable{N:Int}{es cs:List Pr}{h k:Int}{J:Nat->Nat->Prop}{br:Nat->Int}{X:Nat->Nat->Int}{wl:Nat->Nat->List Int}{rot:Int->List Int}
theorem YM(hV:BX N es)(hsub:∀c,c∈cs->c∈es)(hh:VH cs h):CZ es (Aj cs h) (AD cs h) (LI es cs h):=by
 have hex:∃k,CZ es (Aj cs h) (AD cs h) k:=by
  obtain⟨e,a,he,q⟩:=Cq hh.1 hh.2;obtain⟨i,hi⟩:=A1j.1 (hsub a (A1h he));rcases q with⟨_,q1,q2⟩|⟨_,q1,q2⟩
  .exact⟨_,Du hi q1.symm q2.symm⟩
  exact⟨_,Fj hi q2.symm q1.symm⟩
 unfold LI;rw[dif_pos hex];exact A2X hex
theorem Ec(hV:BX N es)(hsub:∀c,c∈cs->c∈es)(hh:VH cs h):VH es (LI es cs h)/\Aj es (LI es cs h)=Aj cs h/\AD es (LI es cs h)=AD cs h:=by
 obtain⟨a,b,c,d⟩:=YM hV hsub hh;exact⟨⟨a,b⟩,c,d⟩
theorem Ja(hV:BX N es)(hsub:∀c,c∈cs->c∈es)(hh:VH cs h):LI es cs (tw h)=tw (LI es cs h):=by
 obtain⟨a1,a2,a3⟩:=Ec hV hsub hh;obtain⟨b1,b2,b3⟩:=Ec hV hsub hh.tw;refine CZ.uniq hV (u:=AD cs h) (v:=Aj cs h) ⟨b1.1,b1.2,by rw[b2,BL hh],by rw[b3,Ef hh]⟩ ⟨a1.tw.1,a1.tw.2,by rw[BL a1,a3],by rw[Ef a1,a2]⟩
theorem PO(hV:BX N es)(hVc:BX N cs)(hsub:∀c,c∈cs->c∈es)(hh:VH cs h)(hk:VH cs k)(e:LI es cs h=LI es cs k):h=k:=by
 obtain⟨a1,a2,a3⟩:=Ec hV hsub hh;obtain⟨b1,b2,b3⟩:=Ec hV hsub hk;rw[e] at a2 a3;exact CZ.uniq hVc (u:=Aj cs h) (v:=AD cs h) ⟨hh.1,hh.2,rfl,rfl⟩ ⟨hk.1,hk.2,by rw[<-a2,b2],by rw[<-a3,b3]⟩
theorem MH(hV:BX N es)(hVc:BX N cs)(hsub:∀c,c∈cs->c∈es)(hh:VH cs h)(hk:VH cs k):LI es cs h / 2=LI es cs k / 2↔h / 2=k / 2:=by
 have tt:∀k,tw k / 2=k / 2:=fun k=>by unfold tw;split<;>omega
 constructor
 .intro e;rcases IA e with f|f
  .rw[PO hV hVc hsub hh hk f]
  rw[<-Ja hV hsub hk] at f;rw[PO hV hVc hsub hh hk.tw f,tt]
 intro e;rcases IA e with rfl|rfl
 .rfl
 rw[Ja hV hsub hk,tt]
theorem iot_wlk(hV:BX N es)(hsub:∀c,c∈cs->c∈es){z:Int}{l:List Int}(hw:NK cs h z l):NK es (LI es cs h) (LI es cs z) (l.map (LI es cs)):=by
 induction hw with
 | one hh=>exact .one (Ec hV hsub hh).1
 | cons hh hk hw ih=>
  refine .cons (Ec hV hsub hh).1 ?_ ih;rw[(Ec hV hsub hw.vh.1).2.1,(Ec hV hsub hh).2.2,hk]
theorem iot_ed(hV:BX N es)(hVc:BX N cs)(hsub:∀c,c∈cs->c∈es){l:List Int}(hl:∀x,x∈l->VH cs x){y:Int}:GL (l.map (LI es cs)) (y / 2)=true↔∃z,VH cs z/\LI es cs z=y/\GL l (z / 2)=true:=by
 have tt:∀k,tw k / 2=k / 2:=fun k=>by unfold tw;split<;>omega
 rw[Db];constructor
 .rintro⟨x,hx,e⟩;obtain⟨z,hz,rfl⟩:=A1G.1 hx;have hzv:=hl z hz;rcases IA e with f|f
  .exact⟨z,hzv,f,Db.2 ⟨z,hz,rfl⟩⟩
  refine⟨tw z,hzv.tw,by rw[Ja hV hsub hzv,f,DK],Db.2 ⟨z,hz,(tt z).symm⟩⟩
 rintro⟨z,hz,rfl,he⟩;obtain⟨x,hx,e⟩:=Db.1 he;exact⟨_,A1G.2 ⟨x,hx,rfl⟩,(MH hV hVc hsub (hl x hx) hz).2 e⟩
theorem Qk.move(hV:BX N es)(hVc:BX N cs)(hsub:∀c,c∈cs->c∈es)(hK:Qk cs J br X wl):Qk es J br (fun i j=>LI es cs (X i j)) (fun i j=>(wl i j).map (LI es cs)):=by
 have hl:∀{i j},J i j->∀x,x∈wl i j->VH cs x:=fun h=>(hK.wlk h).vh.2.2.2.2;have ed:∀{i j},J i j->∀{y},GL ((wl i j).map (LI es cs)) (y / 2)=true↔∃z,VH cs z/\LI es cs z=y/\GL (wl i j) (z / 2)=true:=fun h=>iot_ed hV hVc hsub (hl h);have xv:∀{i j},J i j->VH cs (X i j):=fun h=>(hK.vh h).1;have md:∀{i j x},x∈((wl i j).map (LI es cs)).dropLast->∃z,z∈(wl i j).dropLast/\x=LI es cs z:=fun{i j x} hx=>by
  rw[<-List.map_dropLast] at hx;obtain⟨z,hz,e⟩:=A1G.1 hx;exact⟨z,hz,e.symm⟩
 refine⟨hK.sym,hK.ne,hK.inj,fun h=>?_,fun h=>?_,fun h=>?_,fun h e=>?_,fun h1 h2 e1 e2=>?_,fun{i j k l y} h1 h2 hy hyi e=>?_,fun{i j k l x y} h1 h2 hx hy hyx e=>?_,fun{i j x k} h hx hk hkx=>?_⟩
 .have:=iot_wlk hV hsub (hK.wlk h);rwa [Ja hV hsub (xv (hK.sym h))] at this
 .rw[(Ec hV hsub (xv h)).2.1,hK.frm h]
 .have:=hK.nod h;unfold List.Nodup at *;rw[A2b] at this;rw[A2b,A2b];exact this.imp_of_mem fun{a b} ha hb hab e=>hab ((MH hV hVc hsub (hl h a ha) (hl h b hb)).1 e)
 .have key:∀{i j},J i j->GL ((wl i j).map (LI es cs)) e=true->GL ((wl j i).map (LI es cs)) e=true:=fun{i j} h he=>by
   obtain⟨x,hx,f⟩:=Db.1 he;rw[<-f] at he ⊢;obtain⟨z,z1,z2,z3⟩:=(ed h).1 he;rw[hK.rev h] at z3;exact(ed (hK.sym h)).2 ⟨z,z1,z2,z3⟩
  rw[A3a];exact⟨key h,key (hK.sym h)⟩
 .obtain⟨x,hx,f⟩:=Db.1 e1;obtain⟨y,hy,g⟩:=Db.1 e2;obtain⟨a,ha,rfl⟩:=A1G.1 hx;obtain⟨b,hb,rfl⟩:=A1G.1 hy;have:=(MH hV hVc hsub (hl h1 a ha) (hl h2 b hb)).1 (by rw[f,g]);exact hK.apart (e:=a / 2) h1 h2 (Db.2 ⟨a,ha,rfl⟩) (Db.2 ⟨b,hb,this.symm⟩)
 .obtain⟨z,z1,rfl,z3⟩:=(ed h2).1 e;rw[(Ec hV hsub z1).2.1] at hyi;rcases hK.atb h1 h2 z1 hyi z3 with⟨a,b⟩|⟨a,b⟩
  .exact .inl ⟨a,by rw[b]⟩
  exact .inr ⟨a,by rw[b]⟩
 .obtain⟨z,z1,rfl,z3⟩:=(ed h2).1 e;obtain⟨w,hw,rfl⟩:=md hx;rw[(Ec hV hsub z1).2.1,(Ec hV hsub (hl h1 w (List.dropLast_subset _ hw))).2.2] at hyx;exact hK.inn h1 h2 hw z1 hyx z3
 obtain⟨w,hw,rfl⟩:=md hx;obtain⟨k,hkm,rfl⟩:=A1G.1 hk;have hwv:=hl h w (List.dropLast_subset _ hw);have hkv:=hl h k hkm;rw[(Ec hV hsub hkv).2.1,(Ec hV hsub hwv).2.2] at hkx;obtain⟨a1,a2⟩:=hK.nxt h hw hkm hkx;refine⟨fun e=>a1 (PO hV hVc hsub hwv.tw hkv (by rw[Ja hV hsub hwv];exact e)),fun y hy hyx=>?_⟩;rw[(Ec hV hsub hwv).2.2] at hyx;rw[ed h];constructor
 .rintro⟨z,z1,rfl,z3⟩;rw[(Ec hV hsub z1).2.1] at hyx;rcases(a2 z z1 hyx).1 z3 with rfl|rfl
  .exact .inl (Ja hV hsub hwv)
  exact .inr rfl
 rintro(rfl|rfl)
 .exact⟨tw w,hwv.tw,Ja hV hsub hwv,(a2 (tw w) hwv.tw (BL hwv)).2 (.inl rfl)⟩
 exact⟨k,hkv,rfl,(a2 k hkv hkx).2 (.inr rfl)⟩
theorem Vm{n:Nat}(hVc:BX n cs){a b:Int}(ha:Cg cs a≠2)(hb:Cg cs b≠2)(hab:a≠b)(hm:srt a b∈JW cs cs.length):∃x,Bd cs x/\Aj cs x=a/\AD cs (HK cs x)=b:=by
 obtain⟨e,he,hs⟩:=A1G.1 hm;have hlt:=O7 he;have he0:=Gg hlt;have ho0:=FV hlt;have hB:Le cs e=AD cs (HK cs (2*(e:Int))):=rfl;have hends:=A0G hs;have hf:¬K7 cs e:=fun h=>by
  have:=WM h;rcases hends with⟨h1,h2⟩|⟨h1,h2⟩
  .exact hab (by rw[<-h1,<-h2,this])
  exact hab (by rw[<-h1,<-h2,this])
 have hA:JX cs e=AD cs (HK cs (2*(e:Int)+1)):=WL hVc hlt hf;have t1:tw (2*(e:Int))=2*(e:Int)+1:=OY e;have t2:tw (2*(e:Int)+1)=2*(e:Int):=by rw[<-t1,DK]
 rw[hA,hB] at hends;rcases hends with⟨h1,h2⟩|⟨h1,h2⟩
 .obtain⟨q1,q2,q3,_⟩:=VA hVc ho0 (by rw[h1];exact ha) (by rw[t2,h2];exact hb);exact⟨_,q1,by rw[q2,h1],by rw[q3,t2,h2]⟩
 obtain⟨q1,q2,q3,_⟩:=VA hVc he0 (by rw[h2];exact ha) (by rw[t1,h1];exact hb);exact⟨_,q1,by rw[q2,h2],by rw[q3,t1,h1]⟩
theorem Ok{l:List Int}(hn:l.Nodup){i j:Nat}(hi:i<l.length)(hj:j<l.length)(e:l.getD i 0=l.getD j 0):i=j:=by
 rw[List.getD_eq_getElem?_getD,List.getD_eq_getElem?_getD,A1d hi,A1d hj] at e;exact(List.getElem_inj hn).1 e
theorem Ei{l:List Int}{i:Nat}(hi:i<l.length):l[i]? =some (l.getD i 0):=by rw[List.getD_eq_getElem?_getD,A1d hi];rfl
theorem kura_pm{n:Nat}(hV:BX n es)(hVc:BX n cs)(hsub:∀c,c∈cs->c∈es)(hk:HA n cs)(hM:PM es rot):False:=by
 obtain⟨d,hdeg,hg,⟨h1,h2,h3,h4⟩|⟨h1,h2,h3,h4⟩⟩:=hk
 .have hnd:=OJ cs n;generalize DQ cs n=B at hdeg h1 h3 hnd;have dg:∀i,i<5->Cg cs (B.getD i 0)=4:=fun i hi=>by rw[hdeg _ (A1h (Ei (by omega))),h2]
  have inj:∀i j,i<5->j<5->B.getD i 0=B.getD j 0->i=j:=fun i j hi hj e=>Ok hnd (by omega) (by omega) e;obtain⟨X,wl,hK⟩:=YG (J:=J5) (n:=5) (d:=4) (br:=fun i=>B.getD i 0) hVc (fun h=>⟨Ne.symm h.1,h.2.2,h.2.1⟩) (fun h=>h.1) (fun h=>h.2.1) (fun i hi=>by
   have:∀i,i<5->((List.range 5).filter fun j=>decide (i≠j/\i<5/\j<5)).length=4:=by decide
   have h:=this i hi;have e:(fun j=>decide (J5 i j))=fun j=>decide (i≠j/\i<5/\j<5):=by funext j;unfold J5;congr
   rw[e];exact h) (by decide) inj dg (fun i j hJ=>by
   refine Vm hVc (by rw[dg i hJ.2.1];decide) (by rw[dg j hJ.2.2];decide) (fun e=>hJ.1 (inj i j hJ.2.1 hJ.2.2 e)) (h3 _ ?_);rcases Nat.lt_or_gt_of_ne hJ.1 with c|c
   .exact Fi.2 ⟨i,j,_,_,c,Ei (by have:=hJ.2.1;omega),Ei (by have:=hJ.2.2;omega),rfl⟩
   exact Fi.2 ⟨j,i,_,_,c,Ei (by have:=hJ.2.2;omega),Ei (by have:=hJ.2.1;omega),QO _ _⟩);exact(hK.move hV hVc hsub).five hV hM
 have hp:=I0 (JW cs cs.length) (DQ cs n);have hnd:=hp.nodup_iff.2 (OJ cs n);have hl:=hp.length_eq.trans h1;have hdeg':∀v,v∈CB (JW cs cs.length) (DQ cs n)->Cg cs v=3:=fun v hv=>by rw[hdeg v (hp.mem_iff.1 hv),h2]
 generalize CB (JW cs cs.length) (DQ cs n)=B at hdeg' h3 hnd hl;have dg:∀i,i<6->Cg cs (B.getD i 0)=3:=fun i hi=>hdeg' _ (A1h (Ei (by omega)));have inj:∀i j,i<6->j<6->B.getD i 0=B.getD j 0->i=j:=fun i j hi hj e=>Ok hnd (by omega) (by omega) e;have lt6:∀{i j},Xo i j->i<6:=fun h=>by rcases h with h|h<;>omega
 have sym:∀{i j},Xo i j->Xo j i:=fun h=>h.symm;have ne:∀{i j},Xo i j->i≠j:=fun h=>by rcases h with h|h<;>omega
 obtain⟨X,wl,hK⟩:=YG (J:=Xo) (n:=6) (d:=3) (br:=fun i=>B.getD i 0) hVc sym ne lt6 (fun i hi=>by
  have:∀i,i<6->((List.range 6).filter fun j=>decide ((i<3/\3<=j/\j<6)\/(j<3/\3<=i/\i<6))).length=3:=by decide
  have h:=this i hi;have e:(fun j=>decide (Xo i j))=fun j=>decide ((i<3/\3<=j/\j<6)\/(j<3/\3<=i/\i<6)):=by funext j;unfold Xo;congr
  rw[e];exact h) (by decide) inj dg (fun i j hJ=>by
  have li:=lt6 hJ;have lj:=lt6 (sym hJ);refine Vm hVc (by rw[dg i li];decide) (by rw[dg j lj];decide) (fun e=>ne hJ (inj i j li lj e)) (h3 _ ?_);rcases hJ with c|c
  .exact Gj.2 ⟨i,j,_,_,c.1,c.2.1,Ei (by omega),Ei (by omega),rfl⟩
  exact Gj.2 ⟨j,i,_,_,c.1,c.2.1,Ei (by omega),Ei (by omega),QO _ _⟩);exact(hK.move hV hVc hsub).six hV hM
end
end
end Go.Fl
