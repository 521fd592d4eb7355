/- Proved here, packed: what the parts Lcoe Lcof Lcog Lcoh Nexta prove (rules of the walk, contracts of functions, plain laws). Conditions: in each statement. -/
import Derived.Test.YtkbifmngmocjnaaGreatDoorPAS
namespace Go.Proofs.YtkbifmngmocjnaaGreatDoor
set_option maxRecDepth 100000
set_option maxHeartbeats 8000000
set_option linter.all false
namespace Top
open YtkbifmngmocjnaaGreatDoor
def pK(f:Nat->Nat):Nat->Nat
 |0=>0
 |n+1=>pK f n+f n
theorem Ec{f g:Nat->Nat}:∀{n:Nat},(∀k,k<n->f k<=g k)->pK f n<=pK g n
 |0,_=>aA _
 |n+1,h=>by have:=Ec (n:=n) (λk a=>h k Zo);have:=h n Zo;simp only[pK];omega
theorem Ed{f g:Nat->Nat}{i c:Nat}:∀{n:Nat},i<n->(∀k,k<n->k≠i->f k<=g k)->f i+c<=g i->pK f n+c<=pK g n
 |0,a,_,_=>absurd a Zo
 |n+1,a,h,b=>by
  simp only[pK];by_cases e:i=n;·subst e;have:=Ec (n:=i) (f:=f) (g:=g) (λk d=>h k Zo Zo);omega
  ·have:=Ed (n:=n) (i:=i) (c:=c) Zo (λk d j=>h k Zo j) b;have:=h n Zo (λe'=>e e'.symm);omega
theorem Hr(f g:Nat->Nat):∀n,pK (λk=>f k+g k) n=pK f n+pK g n
 |0=>rfl
 |n+1=>by simp only[pK,Hr f g n];omega
theorem Kz(c:Nat)(f:Nat->Nat):∀n,pK (λk=>c*f k) n=c*pK f n
 |0=>rfl
 |n+1=>by simp only[pK,Kz c f n,jJ]
theorem Fv(c:Nat):∀n,pK (λ_=>c) n=c*n
 |0=>rfl
 |n+1=>by simp only[pK,Fv c n,jJ,eL]
structure Qn(n:Nat)(t:lr):Prop where
 call:yd t.call
 ll:t.lM.ll.length<=10000
 l9:t.lM.l9.length<=100
 mV:0<=t.mV/\t.mV<=n
structure m5(C:Nat)(N:Int)(x:lD):Prop where
 kR:p6 (N+1) x.kR
 nU:pP (λ_=>False) x.kR.kP.ns x.kW x.kK
 lp:0<=x.lp/\x.lp<=N
 tz:x.kK.length<=40
 mD:0<=x.k6.1/\x.k6.1<=x.Z.length
 AK:(x.k6.2.map (·.1)).Nodup
 k6:∀w∈x.k6.2,0<=w.2/\w.2<=x.Z.length/\∃(k:Nat) (t:lr),w.1=(k:Int)/\x.kK[k]? =some t/\t.done=true/\t.mS=false/\t.lA=[]/\t.call.kind=12/\t.mV=w.2
 first:(∀t∈x.kK,t.done=false)->∀(k:Nat) (t:lr),x.kK[k]? =some t->xf x.kR.kP.ns (vt x.kW k t)=true
 kK:∀t∈x.kK,Qn x.Z.length t
 Z:∀o∈x.Z,nj o=true
 zR:x.Z.length<=C+x.kR.kP.es.length
def vT(x:lD)(k:Nat):Nat:=match x.kK[k]? with
 |some t=>nW x.kR.kP.ns (oU x.k6 (k:Int)) (vt x.kW k t)
 |none=>0
def pL(kK:List lr)(k:Nat):Nat:=match kK[k]? with
 |some t=>if t.done then 0 else 1
 |none=>0
def tR(x:lD):Nat:=pK (pL x.kK) x.kK.length
def sI(x:lD):Nat:=pK (vT x) x.kK.length+17*(tR x*(tR x-1))
theorem xg{x:lD}{k:Nat}{t:lr}(h:x.kK[k]? =some t):vT x k=nW x.kR.kP.ns (oU x.k6 (k:Int)) (vt x.kW k t):=by unfold vT;rw[h]
theorem y2{kK:List lr}{k:Nat}{t:lr}(h:kK[k]? =some t):pL kK k=if t.done then 0 else 1:=by unfold pL;rw[h]
theorem AL{l:List lr}{t:lr}(h:t∈l):∃k:Nat,l[k]? =some t:=eU.1 h
theorem zS{g:wj}{n:Int}:oU g n=true↔∃w∈g.2,w.1=n:=by unfold oU;simp
theorem AI.done{X:Nat->Prop}{ns:List la}{kW b:nt}{kK c:List lr}{n:Nat}(h:AI kW kK b c n)(g:pP X ns kW kK)(i:pP X ns b c){k:Nat}{t:lr}(j:k≠n)(d:kK[k]? =some t)(e:t.done=true):c[k]? =some t:=by
 obtain⟨t',f,a⟩:=h.vt k t j d;rw[rP (g.AJ d e)] at a;have hf:fx t'=fx t:=by rw[<-wI b k t',a]
 rw[rP (i.AJ f (by rw[wJ hf];exact e))] at a;rw[f,a]
theorem m5.Fp{C:Nat}{N:Int}{x:lD}(h:m5 C N x){n:Nat}{t t':lr}(r:x.kK[n]? =some t)(z:oU x.k6 (n:Int)=false){e:nt}{b:List lr}(A:pP (λ_=>False) x.kR.kP.ns e b)(m:AI x.kW x.kK e b n)(s:b[n]? =some t') (hf:fx (vt e n t')=fx t) (hp:nW x.kR.kP.ns false (vt e n t')<nW x.kR.kP.ns false (vt x.kW n t)) (G:xf x.kR.kP.ns (vt x.kW n t)=true->t.done=false->xf x.kR.kP.ns (vt e n t')=true):m5 C (N+1) {x with lp:=x.lp+1,kW:=e,kK:=b}/\sI {x with lp:=x.lp+1,kW:=e,kK:=b}<sI x:=by
 have H:n<x.kK.length:=(ax.1 r).1;have v:∀(k:Nat) (u a:lr),x.kK[k]? =some u->b[k]? =some a->fx a=fx u:=by
  intro k u a d j;by_cases l:k=n;·subst l;rw[r] at d;cases d;rw[s] at j;cases j;rw[<-wI e k t',hf]
  ·obtain⟨T,o,p⟩:=m.vt k u l d;rw[j] at o;cases o;rw[<-wI e k a,p,wI]
 have I:∀(k:Nat) (a:lr),b[k]? =some a->∃u,x.kK[k]? =some u:=by intro k a j;have:=(ax.1 j).1;have:=m.len;exact⟨x.kK[k]'Zo,ad _⟩
 have B:∀(k:Nat) (u:lr),x.kK[k]? =some u->∃a,b[k]? =some a:=by intro k u d;have:=(ax.1 d).1;have:=m.len;exact⟨b[k]'Zo,ad _⟩
 have J:∀k,pL b k=pL x.kK k:=by
  intro k;cases d:x.kK[k]? with
  |none=>
   have:b[k]? =none:=by rw[ei] at d⊢;have:=m.len;omega
   unfold pL;rw[d,this]
  |some u=>obtain⟨a,j⟩:=B k u d;rw[y2 d,y2 j,wJ (v k u a d j)]
 refine⟨⟨h.kR.up Zo,A,⟨by have:=h.lp;show 0<=x.lp+1;omega,by have:=h.lp;show x.lp+1<=N+1;omega⟩,by show b.length<=40;rw[m.len];exact h.tz,h.mD,h.AK,?_,?_,?_,h.Z,h.zR⟩,?_⟩
 ·intro w D;obtain⟨q,K,k,u,E,L,F,M,O,P,Q⟩:=h.k6 w D;have l:k≠n:=by rintro rfl;have:=zS.2 ⟨w,D,E⟩;rw[z] at this;cases this
  exact⟨q,K,k,u,E,m.done h.nU A l L F,F,M,O,P,Q⟩
 ·intro mz k a j;have y:∀u∈x.kK,u.done=false:=by intro u d;obtain⟨k,l⟩:=AL d;obtain⟨a,j⟩:=B k u l;rw[<-wJ (v k u a l j)];exact mz a (ar j)
  by_cases l:k=n;·subst l;rw[s] at j;cases j;exact G (h.first y k t r) (y t (ar r))
  ·obtain⟨u,o,p⟩:=m.Fb l j;show xf x.kR.kP.ns (vt e k a)=true;rw[p];exact h.first y k u o
 ·intro a j;obtain⟨k,l⟩:=AL j;obtain⟨u,d⟩:=I k a l;have hf:=v k u a d l;have q:=h.kK u (ar d);have o:a.lM=u.lM:=congrArg (·.2.2.2.2.2.2.2) hf;have p:a.mV=u.mV:=congrArg (·.2.2.2.1) hf;exact⟨by rw[zQ hf];exact q.call,by rw[o];exact q.ll,by rw[o];exact q.l9,by rw[p];exact q.mV⟩
 ·have R:tR {x with lp:=x.lp+1,kW:=e,kK:=b}=tR x:=by unfold tR;show pK (pL b) b.length=_;rw[m.len];congr 1;funext k;exact J k
  unfold sI;rw[R];have:=Ed (f:=vT {x with lp:=x.lp+1,kW:=e,kK:=b}) (g:=vT x) (i:=n) (c:=1) (n:=x.kK.length) H (λk l S=>by
   have d:x.kK[k]? =some x.kK[k]:=ad l;obtain⟨a,o,p⟩:=m.vt k _ S d;rw[xg d,xg (x:={x with lp:=x.lp+1,kW:=e,kK:=b}) o];show nW x.kR.kP.ns (oU x.k6 (k:Int)) (vt e k a)<=_;rw[p];exact aA _) (by
   rw[xg r,xg (x:={x with lp:=x.lp+1,kW:=e,kK:=b}) s,z];show nW x.kR.kP.ns false (vt e n t')+1<=_;exact hp)
  show pK (vT {x with lp:=x.lp+1,kW:=e,kK:=b}) b.length+_<_;rw[m.len];omega
theorem Fw{x:lD}{k:Nat}:k∈pa x↔∃t,x.kK[k]? =some t/\t.mS=false/\pl x.kW (k:Int)=none/\(oU x.k6 (k:Int)=false\/∃w r,x.k6.2=w::r/\w.1=(k:Int)):=by
 unfold pa;rw[bp,d8];unfold uJ;constructor
 ·rintro⟨c,b⟩;rw[ad c] at b;simp only[aF,cJ,eO,ji] at b;refine⟨_,ad c,b.1.1,b.1.2,?_⟩;rcases b.2 with a|a;·exact .inl a
  ·cases e:x.k6.2 with
   |nil=>rw[e] at a;cases a
   |cons w r=>rw[e] at a;exact .inr ⟨w,r,rfl,by simpa using a⟩
 ·rintro⟨t,c,b,a,d⟩;refine⟨(ax.1 c).1,?_⟩;rw[c];simp only[aF,cJ,eO,ji];refine⟨⟨b,a⟩,?_⟩;rcases d with d|⟨w,r,d,f⟩;·exact .inl d
  ·rw[d];exact .inr (by simpa using f)
theorem KA{x:lD}(p:Int)(h:pa x≠[]):∃kU∈pa x,tM x p=some (kU,oU x.k6 (kU:Int)):=by
 unfold tM;rw[ai h];refine⟨_,?_,rfl⟩;have b:0<(pa x).length:=cA.2 h;have a:(B9 p (pa x).length).toNat<(pa x).length:=by unfold B9;have c:=kx p (show(0:Int)<((pa x).length:Int) by omega);have d:=iY (p.tmod ((pa x).length:Int)+((pa x).length:Int)) (show(0:Int)<((pa x).length:Int) by omega);have e:=jD ((pa x).length:Int) (show 0<=p.tmod ((pa x).length:Int)+((pa x).length:Int) by omega);omega
 rw[cF,ad a];exact bv a
end Top
namespace Top
open YtkbifmngmocjnaaGreatDoor
theorem m5.Fx{C:Nat}{N:Int}{x:lD}(h:m5 C N x){a:List lr}{b:wj}(lL:a.length=x.kK.length)(p:∀(k:Nat) (t u:lr),x.kK[k]? =some t->a[k]? =some u->u=t\/(t.done=true/\t.mS=false/\t.lA=[]/\u.call=t.call/\u.lA=t.lA/\u.pos=t.pos/\u.done=true/\Qn x.Z.length u))(G:0<=b.1/\b.1<=x.Z.length) (H:(b.2.map (·.1)).Nodup)(I:∀w∈b.2,0<=w.2/\w.2<=x.Z.length/\∃(k:Nat) (t:lr),w.1=(k:Int)/\a[k]? =some t/\t.done=true/\t.mS=false/\t.lA=[]/\t.call.kind=12/\t.mV=w.2)(J:∀(k:Nat) (t u:lr),x.kK[k]? =some t->a[k]? =some u->t.done=true->nW x.kR.kP.ns (oU b (k:Int)) u<=nW x.kR.kP.ns (oU x.k6 (k:Int)) t){n:Nat} {t u:lr} (s:x.kK[n]? =some t) (j:a[n]? =some u) (z:t.done=true) (K:nW x.kR.kP.ns (oU b (n:Int)) u<nW x.kR.kP.ns (oU x.k6 (n:Int)) t):m5 C (N+1) {x with lp:=x.lp+1,k6:=b,kK:=a}/\sI {x with lp:=x.lp+1,k6:=b,kK:=a}<sI x:=by
 have L:n<x.kK.length:=(ax.1 s).1;have M:∀(k:Nat) (u:lr),a[k]? =some u->∃t,x.kK[k]? =some t:=by intro k u j;have:=(ax.1 j).1;exact⟨x.kK[k]'Zo,ad _⟩
 have A:∀(k:Nat) (u:lr),x.kK[k]? =some u->∃t,a[k]? =some t:=by intro k u j;have:=(ax.1 j).1;exact⟨a[k]'Zo,ad _⟩
 have B:∀(k:Nat) (t u:lr),x.kK[k]? =some t->a[k]? =some u->u.done=t.done:=by
  intro k t u d l;rcases p k t u d l with e|e
  ·rw[e]
  ·rw[e.1,e.2.2.2.2.2.2.1]
 have O:pP (λ_=>False) x.kR.kP.ns x.kW a:=by
  refine h.nU.map lL (λk t u d l=>?_);rcases p k t u d l with e|e
  ·rw[e];refine⟨⟨rfl,rfl,rfl,id,.inl⟩,.inl⟩
  ·exact⟨⟨e.2.2.2.2.1,e.2.2.2.2.2.1,e.2.2.2.1,λ_=>e.2.2.2.2.2.2.1,λ_=>.inr ⟨e.2.2.2.2.2.2.1,e.2.2.1⟩⟩,λ_=>.inl e.1⟩
 have P:∀k,pL a k=pL x.kK k:=by
  intro k;cases j:x.kK[k]? with
  |none=>
   have:a[k]? =none:=by rw[ei] at j⊢;omega
   unfold pL;rw[j,this]
  |some u=>obtain⟨m,q⟩:=A k u j;rw[y2 j,y2 q,B k u m j q]
 refine⟨⟨h.kR.up Zo,O,⟨by have:=h.lp;show 0<=x.lp+1;omega,by have:=h.lp;show x.lp+1<=N+1;omega⟩,by show a.length<=40;rw[lL];exact h.tz,G,H,I,?_,?_,h.Z,h.zR⟩,?_⟩;·intro mz;have d:=mz u (ar j);rw[B n t u s j,z] at d;cases d
 ·intro m q;obtain⟨k,r⟩:=AL q;obtain⟨t',D⟩:=M k m r;rcases p k t' m D r with e|e
  ·rw[e];exact h.kK t' (ar D)
  ·exact e.2.2.2.2.2.2.2
 ·have Q:tR {x with lp:=x.lp+1,k6:=b,kK:=a}=tR x:=by unfold tR;show pK (pL a) a.length=_;rw[lL];congr 1;funext k;exact P k
  unfold sI;rw[Q];have E:∀(k:Nat) (t u:lr),x.kK[k]? =some t->a[k]? =some u->t.done=true->vT {x with lp:=x.lp+1,k6:=b,kK:=a} k=nW x.kR.kP.ns (oU b (k:Int)) u/\vT x k=nW x.kR.kP.ns (oU x.k6 (k:Int)) t:=by intro k t u d l R;rw[xg d,xg (x:={x with lp:=x.lp+1,k6:=b,kK:=a}) l];have F:=h.nU.AJ d R;exact⟨by show nW x.kR.kP.ns (oU b (k:Int)) (vt x.kW k u)=_;rw[rP F],by rw[rP F]⟩
  have:=Ed (f:=vT {x with lp:=x.lp+1,k6:=b,kK:=a}) (g:=vT x) (i:=n) (c:=1) (n:=x.kK.length) L (λk r S=>by
   have d:x.kK[k]? =some x.kK[k]:=ad r;obtain⟨m,l⟩:=A k _ d;cases o:x.kK[k].done with
   |true=>obtain⟨v,y⟩:=E k _ m d l o;rw[v,y];exact J k _ m d l o
   |false=>(rcases p k _ m d l with e|e;·rw[xg d,xg (x:={x with lp:=x.lp+1,k6:=b,kK:=a}) l,e];show nW x.kR.kP.ns (oU b (k:Int)) (vt x.kW k x.kK[k])<=_;have hf:=wJ (wI x.kW k x.kK[k]);rw[o] at hf;unfold nW;rw[hf];exact aA _);·rw[e.1] at o;cases o) (by
   obtain⟨v,y⟩:=E n t u s j z;rw[v,y];exact K)
  show pK (vT {x with lp:=x.lp+1,k6:=b,kK:=a}) a.length+_<_;rw[lL];omega
theorem KB:∀(l:List Int) (s:lD),(∀n∈l,0<=n)->∃a,l.foldl pE s={s with kK:=a}/\a.length=s.kK.length/\∀k:Nat,a[k]? =(s.kK[k]?).map λt=>if(k:Int)∈l then{t with mS:=true,mK:=s.lp} else t
 |[],s,_=>⟨s.kK,rfl,rfl,λk=>by cases s.kK[k]?<;>simp⟩
 |n::l,s,d=>by
  obtain⟨a,f,g,h⟩:=KB l (pE s n) (λm i=>d m (aI _ i));refine⟨a,by rw[bU,f];rfl,?_,λk=>?_⟩;·rw[g];unfold pE r8;split<;>simp
  ·rw[h];show((r8 s.kK n _)[k]?).map _=_;rw[Qe _ _ _ (d n (ay ..)),di];cases s.kK[k]? with
   |none=>rfl
   |some t=>(simp only[aW,cD,Function.comp,aJ];by_cases b:n=(k:Int);·rw[aj b,aj (show(k:Int)=n\/(k:Int)∈l from .inl b.symm)];split<;>rfl);·(rw[ai b];by_cases c:(k:Int)∈l;·rw[aj c,aj (.inr c)];rfl);·rw[ai c,ai (by rintro(e|e);exact b e.symm;exact c e)]
theorem m5.tY{C:Nat}{N:Int}{x:lD}(h:m5 C N x){n:Nat}{t:lr}(i:x.kK[n]? =some t)(E:t.mS=false)(d:∃w r,x.k6.2=w::r/\w.1=(n:Int))(ng:Bool):m5 C (N+1) (ob {x with lp:=x.lp+1} n ng)/\sI (ob {x with lp:=x.lp+1} n ng)<sI x:=by
 have F:∀(k:Nat) (t:lr),x.kK[k]? =some t->oU x.k6 (k:Int)=true->t.done=true/\t.mS=false/\t.lA=[]/\t.call.kind=12:=by
  intro k t i j;obtain⟨w,g,e⟩:=zS.1 j;obtain⟨_,_,L,t',p,l,y,M,O,P,_⟩:=h.k6 w g;have:L=k:=by omega
  subst this;rw[i] at l;cases l;exact⟨y,M,O,P⟩
 have q:oU x.k6 (n:Int)=true:=by obtain⟨w,r,p,l⟩:=d;exact zS.2 ⟨w,by rw[p];exact ay ..,l⟩
 obtain⟨o,_,Q,R⟩:=F n t i q;have G:∀b,nW x.kR.kP.ns true t=1/\nW x.kR.kP.ns b {t with mS:=true}=0:=by intro b;unfold nW;simp[E,o,R]
 have H:=h.kK t (ar i);cases ng with
 |true=>
  have e:ob {x with lp:=x.lp+1} n true={x with lp:=x.lp+1,k6:=(x.k6.1,x.k6.2.filter λw=>!(w.1==(n:Int))),kK:=x.kK.modify n λt=>{t with lM:={lU.z with err:=120},mS:=true,mK:=x.lp+1}}:=by unfold ob pE;rw[aj rfl];dsimp only;unfold r8;rw[aj Zo,bC,gc];rfl
  rw[e];have S:∀k:Nat,k≠n->oU (x.k6.1,x.k6.2.filter λw=>!(w.1==(n:Int))) (k:Int)=oU x.k6 (k:Int):=by
   intro k j;rw[eS,zS,zS];constructor;·rintro⟨w,g,e⟩;exact⟨w,(bp.1 g).1,e⟩
   ·rintro⟨w,g,e⟩;exact⟨w,bp.2 ⟨g,by simp[e];omega⟩,e⟩
  refine h.Fx Zs (λk t' u f c=>?_) h.mD (h.AK.sublist (dJ.map _)) ?_ (λk t' u f c y=>?_) i (ym i _) o ?_
  ·by_cases j:k=n;·subst j;rw[i] at f;cases f;rw[ym i] at c;cases c;exact .inr ⟨o,E,Q,rfl,rfl,rfl,o,⟨H.call,by simp[lU.z],by simp[lU.z],H.mV⟩⟩
   ·rw[vS _ j,f] at c;cases c;exact .inl rfl
  ·intro w g;obtain⟨T,V⟩:=bp.1 g;obtain⟨s,A,k,t',v,W,X⟩:=h.k6 w T;refine⟨s,A,k,t',v,?_,X⟩;rw[vS _ (λe=>by subst e;simp[v] at V)];exact W
  ·by_cases j:k=n;·(subst j;rw[i] at f;cases f;rw[ym i] at c;cases c;have:∀b a e,nW x.kR.kP.ns b {t with lM:=a,mS:=true,mK:=e}=0:=by intro b a e;unfold nW;simp);rw[this];exact aR _
   ·rw[vS _ j,f] at c;cases c;rw[S k j];exact aA _
  ·have:∀b a e,nW x.kR.kP.ns b {t with lM:=a,mS:=true,mK:=e}=0:=by intro b a e;unfold nW;simp
   rw[this,q,(G true).1];exact kD
 |false=>
  have mz:∀w∈x.k6.2,decide (w.2<=max x.k6.1 (x.Z.length:Int))=true:=by intro w g;have:=(h.k6 w g).2.1;exact aZ Zo
  have Y:max x.k6.1 (x.Z.length:Int)=(x.Z.length:Int):=by have:=h.mD;omega
  have e0:wm x.k6 x.Z.length=(((x.Z.length:Int),[]),x.k6.2.map (·.1)):=by unfold wm;rw[du.2 mz,cT.2 (λw g=>by rw[mz w g];simp),Y]
  obtain⟨B,p,l,I⟩:=KB (x.k6.2.map (·.1)) {x with lp:=x.lp+1,k6:=((x.Z.length:Int),[])} (λm hm=>by obtain⟨w,g,rfl⟩:=aU.1 hm;obtain⟨_,_,k,_,e,_⟩:=h.k6 w g;omega);have e:ob {x with lp:=x.lp+1} n false={x with lp:=x.lp+1,k6:=((x.Z.length:Int),[]),kK:=B}:=by unfold ob;rw[ai Zs];dsimp only;rw[e0];exact p
  rw[e];have D:∀k:Nat,(k:Int)∈x.k6.2.map (·.1)↔oU x.k6 (k:Int)=true:=by intro k;rw[zS,aU]
  have J:∀(k:Nat) (t u:lr),x.kK[k]? =some t->B[k]? =some u->u=if oU x.k6 (k:Int)=true then{t with mS:=true,mK:=x.lp+1} else t:=by
   intro k t u f c;rw[I] at c;dsimp only at c;rw[f] at c;simp only[aW,cD] at c;rw[<-c];by_cases d:oU x.k6 (k:Int)=true;·rw[aj d,aj ((D k).2 d)]
   ·rw[ai d,ai (λe=>d ((D k).1 e))]
  have K:∀(b:Bool) (e:Int) (t:lr),nW x.kR.kP.ns b {t with mS:=true,mK:=e}=0:=by intro b e t;unfold nW;simp
  have kF:B[n]? =some {t with mS:=true,mK:=x.lp+1}:=by rw[I];dsimp only;rw[i,aW,aj ((D n).2 q)]
  refine h.Fx (by rw[l]) (λk t' u f c=>?_) (by dsimp only;omega) Zs Zs (λk t' u f c y=>?_) i kF o ?_
  ·have:=J k t' u f c;by_cases d:oU x.k6 (k:Int)=true;·rw[aj d] at this;obtain⟨s,A,v,_⟩:=F k t' f d;have:=h.kK t' (ar f);subst u;exact .inr ⟨s,A,v,rfl,rfl,rfl,s,⟨this.call,this.ll,this.l9,this.mV⟩⟩
   ·rw[ai d] at this;exact .inl this
  ·have:=J k t' u f c;have hf:oU ((x.Z.length:Int),[]) (k:Int)=false:=rfl;by_cases d:oU x.k6 (k:Int)=true;·rw[aj d] at this;rw[this,K];exact aR _
   ·rw[ai d] at this;rw[this,hf];simp only[dD] at d;rw[d];exact aA _
  ·rw[K,q,(G true).1];exact kD
theorem m5.se{C:Nat}{N:Int}{x:lD}(h:m5 C N x){n:Nat}{t:lr}(d:x.kK[n]? =some t)(p:t.mS=false)(j:t.done=true)(q:t.lA=[])(r:t.call.kind=12)(m:oU x.k6 (n:Int)=false)(l:Int):m5 C (N+1) (pz {x with lp:=x.lp+1} n (4,l))/\sI (pz {x with lp:=x.lp+1} n (4,l))<sI x:=by
 have o:=h.kK t (ar d);have s:nW x.kR.kP.ns false t=2:=by unfold nW;simp[p,j,q,r]
 have y:nW x.kR.kP.ns true t=1:=by unfold nW;simp[p,j,r]
 have z:∀(b:Bool) (e:Int) (t:lr),nW x.kR.kP.ns b {t with mS:=true,mK:=e}=0:=by intro b e t;unfold nW;simp
 by_cases A:t.mV<=x.k6.1
 ·have e:pz {x with lp:=x.lp+1} n (4,l)={x with lp:=x.lp+1,k6:=x.k6,kK:=x.kK.modify n λt=>{t with mS:=true,mK:=x.lp+1}}:=by unfold pz;dsimp only;rw[ai Zd,ai Zd,ai Zd,aj rfl,d];simp only[aW,aN];unfold wk;rw[aj A];simp only[cc];unfold pE r8;rw[aj Zo,bC]
  rw[e];refine h.Fx Zs (λk t' u g c=>?_) h.mD h.AK ?_ (λk t' u g c D=>?_) d (ym d _) j ?_
  ·by_cases i:k=n;·subst i;rw[d] at g;cases g;rw[ym d] at c;cases c;exact .inr ⟨j,p,q,rfl,rfl,rfl,j,⟨o.call,o.ll,o.l9,o.mV⟩⟩
   ·rw[vS _ i,g] at c;cases c;exact .inl rfl
  ·intro w f;obtain⟨f1,f2,k,t',f3,f4,f5⟩:=h.k6 w f;refine⟨f1,f2,k,t',f3,?_,f5⟩;have i:k≠n:=by rintro rfl;have:=zS.2 ⟨w,f,f3⟩;rw[m] at this;cases this
   rw[vS _ i];exact f4
  ·by_cases i:k=n;·subst i;rw[ym d] at c;cases c;rw[z];exact aR _
   ·rw[vS _ i,g] at c;cases c;exact aA _
  ·rw[z,m,s];exact Nat.two_pos
 ·have E:x.k6.2.findIdx? (λw=>w.1==(n:Int))=none:=by
   rw[cv];intro w f;cases v:w.1==(n:Int) with
   |false=>rfl
   |true=>have:=zS.2 ⟨w,f,by simpa using v⟩;rw[m] at this;cases this
  have e:pz {x with lp:=x.lp+1} n (4,l)={x with lp:=x.lp+1,k6:=(x.k6.1,x.k6.2++[((n:Int),t.mV)]),kK:=x.kK}:=by unfold pz;dsimp only;rw[ai Zd,ai Zd,ai Zd,aj rfl,d];simp only[aW,aN];unfold wk;rw[ai A,E];simp
  rw[e];have F:∀k:Nat,k≠n->oU (x.k6.1,x.k6.2++[((n:Int),t.mV)]) (k:Int)=oU x.k6 (k:Int):=by intro k i;unfold oU;rw[List.any_append];simp only[j7,List.any_nil,Bool.or_false];rw[show((n:Int)==(k:Int))=false from by simp;omega];simp
  have B:oU (x.k6.1,x.k6.2++[((n:Int),t.mV)]) (n:Int)=true:=zS.2 ⟨((n:Int),t.mV),by simp,rfl⟩;refine h.Fx rfl (λk t' u g c=>.inl (by rw[g] at c;cases c;rfl)) h.mD ?_ ?_ (λk t' u g c D=>?_) d d j ?_
  ·show((x.k6.2++[((n:Int),t.mV)]).map (·.1)).Nodup;rw[bA,cC];refine⟨h.AK,by simp,?_⟩;intro a G b v;have H:b=(n:Int):=by simpa using v
   obtain⟨w,f,rfl⟩:=aU.1 G;intro e';rw[H] at e';have:=zS.2 ⟨w,f,e'⟩;rw[m] at this;cases this
  ·intro w f;rcases aQ.1 f with f|f
   ·exact h.k6 w f
   ·rw[aE.1 f];exact⟨o.mV.1,o.mV.2,n,t,rfl,d,j,p,q,r,rfl⟩
  ·rw[g] at c;cases c;by_cases i:k=n;·subst i;rw[d] at g;cases g;rw[B,m,y,s];omega
   ·rw[F k i];exact aA _
  ·rw[B,m,y,s];omega
theorem m5.Y1{C:Nat}{N:Int}{x:lD}(h:m5 C N x){n:Nat}{t:lr}(c:x.kK[n]? =some t)(j:t.mS=false)(g:t.done=true)(m:t.lA=[])(o:t.call.kind≠12)(l:Int):m5 C (N+1) (pz {x with lp:=x.lp+1} n (5,l))/\sI (pz {x with lp:=x.lp+1} n (5,l))<sI x:=by
 have i:=h.kK t (ar c);have q:∀b,nW x.kR.kP.ns b t=1:=by intro b;unfold nW;simp[j,g,m,o]
 have p:∀(b:Bool) (e:Int) (t:lr),nW x.kR.kP.ns b {t with mS:=true,mK:=e}=0:=by intro b e t;unfold nW;simp
 have e:pz {x with lp:=x.lp+1} n (5,l)={x with lp:=x.lp+1,k6:=x.k6,kK:=x.kK.modify n λt=>{t with mS:=true,mK:=x.lp+1}}:=by unfold pz;dsimp only;rw[ai Zd,ai Zd,ai Zd,ai Zd,aj rfl];rfl
 rw[e];refine h.Fx Zs (λk t' u f a=>?_) h.mD h.AK ?_ (λk t' u f a s=>?_) c (ym c _) g ?_
 ·by_cases d:k=n;·subst d;rw[c] at f;cases f;rw[ym c] at a;cases a;exact .inr ⟨g,j,m,rfl,rfl,rfl,g,⟨i.call,i.ll,i.l9,i.mV⟩⟩
  ·rw[vS _ d,f] at a;cases a;exact .inl rfl
 ·intro w r;obtain⟨f1,f2,k,t',f3,f4,f5,f6,f7,f8,f9⟩:=h.k6 w r;refine⟨f1,f2,k,t',f3,?_,f5,f6,f7,f8,f9⟩;have d:k≠n:=by rintro rfl;rw[c] at f4;cases f4;exact o f8
  rw[vS _ d];exact f4
 ·by_cases d:k=n;·subst d;rw[ym c] at a;cases a;rw[p];exact aR _
  ·rw[vS _ d,f] at a;cases a;exact aA _
 ·rw[p,q];exact kD
end Top
namespace Top
open YtkbifmngmocjnaaGreatDoor
theorem Y2{l l':List la}(h:l.map kn=l'.map kn){t:lr}(a:pi l t):pi l' t:=by
 unfold pi at*;cases b:nf t.call with
 |plain=>rw[b] at a;exact a
 |pT=>rw[b] at a;simp only at a⊢;rw[<-Xu h];exact a
 |U ll=>rw[b] at a;simp only at a⊢;unfold Qc at*;simp only[<-Pn h];exact a
theorem Y3{l:List la}{n:la}(h:q5 l n)(hl:nb l)(g:uu l){t:lr}(c:pi l t):pi (l++[n]) t:=by
 unfold pi at*;cases e:nf t.call with
 |plain=>rw[e] at c;exact c
 |pT=>rw[e] at c;exact⟨c.1.trans (h.Fp hl g _),c.2⟩
 |U ll=>
  rw[e] at c;simp only at c⊢;rcases c with d|d|⟨a,b,d,i,j,f,k,o⟩
  ·exact .inl d
  ·exact .inr (.inl d)
  ·refine .inr (.inr ⟨a,b,d,i,j,?_,k,o⟩);rw[h.Pu hl,ai];·exact f
   ·rintro rfl;cases hf:nr l n.id with
    |none=>rw[hf] at f;cases f
    |some m=>obtain⟨p,q⟩:=ur hf;have:=(h.yX m p).1;omega
theorem Qo(l:List la)(c:mo):1∈ry l c:=by rw[zO];exact ay ..
theorem Y4{l:List la}{c:mo}{d:Int}(h:d∈zN l c):d∈ry l c:=by rw[zO];exact aI _ ((Fo l _).mem_iff.2 h)
theorem Qp{X:Nat->Prop}{ns:List la}{kW:nt}{kK:List lr}(c:pP X ns kW kK){k n:Nat}{u:lr}(f:kK[k]? =some u)(g:(1,(n:Int))∈kW.1)(p:k≠n)(h:nf u.call=.pT)(b:pi ns (vt kW k u))(qp:List la):pi qp (vt kW k u):=by
 have i:=zQ (wI kW k u);unfold pi at*;rw[i,h] at b⊢;simp only at b⊢;refine⟨?_,b.2⟩;have j:u.lA=[]:=by
  cases d:u.lA with
  |nil=>rfl
  |cons a r=>
   exfalso;have m:a=1:=by
    have hp:=b.1;rcases Hp kW k u with⟨_,e⟩|⟨l,_,e⟩<;>rw[e,d,zO] at hp
    ·exact(eT.1 hp).1
    ·exact(eT.1 hp).1
   have o:(1,(k:Int))∈kW.1:=(c.lk.qB _ _).2 (by rw[y0 f,d,m];exact ay ..);have:=AG c.lk.one g o;omega
 have hp:=b.1;rcases Hp kW k u with⟨_,e⟩|⟨l,_,e⟩<;>rw[e,j] at hp⊢
 ·exact fH
 ·rw[aS,zO] at*;rw[eT] at*;exact⟨hp.1,fH⟩
theorem Y5{c:mo}(h:c.kind=5\/c.kind=6\/c.kind=13):nf c=.pT:=by unfold nf;rw[ai Zo,ai Zo,aj h]
theorem Qq{c:mo}(h:c.kind=12):nf c=.plain:=by unfold nf;rw[ai Zo,ai Zo,ai Zo]
theorem Qs{X:Nat->Prop}{ns qp:List la}{kW:nt}{kK:List lr}(i:pP X ns kW kK)(hl:nb ns)(D:uu ns){n:Nat}{t:lr}(E:kK[n]? =some t)(F:nf t.call=.pT->t.lA=ry ns t.call){err:Int}(G:BA t.call err ns qp){k:Nat} {u:lr} (m:kK[k]? =some u) (s:k≠n) (f:pi ns (vt kW k u)) (H:t.call.kind=13->err=0->qi u.call=false):pi qp (vt kW k u):=by
 have v:=zQ (wI kW k u);have o:(t.call.kind=5\/t.call.kind=6\/t.call.kind=13)->(∀l∈ry ns t.call,(l,(n:Int))∈kW.1):=by intro h l hl;rw[i.lk.qB,y0 E,F (Y5 h)];exact hl
 have x:nf u.call=.plain->pi qp (vt kW k u):=by intro g;unfold pi at*;rw[v,g] at f⊢;exact f
 cases G with
 |same h=>exact Y2 h f
 |PZ nd h e=>rw[e];exact Y3 h hl D f
 |P0 p I=>
  have q:=o (.inr (.inr p)) 1 (Qo _ _);cases g:nf u.call with
  |plain=>exact x g
  |pT=>exact Qp i m q s g f qp
  |U ll=>have:=H p I;rw[Ku g] at this;cases this
 |move p w nd y z hp e=>
  have A:t.call.kind=5\/t.call.kind=6\/t.call.kind=13:=by omega
  have q:=o A 1 (Qo _ _);cases g:nf u.call with
  |plain=>exact x g
  |pT=>exact Qp i m q s g f qp
  |U ll=>
   unfold pi at*;rw[v,g] at f⊢;simp only at f⊢;rcases f with d|d|⟨a,b,d,J,K,j,L,M⟩
   ·exact .inl d
   ·exact .inr (.inl d)
   ·refine .inr (.inr ⟨a,b,d,J,K,?_,L,M⟩);have N:a∈u.lA:=by
     rcases Hp kW k u with⟨_,e'⟩|⟨l,_,e'⟩<;>rw[e'] at d;·rw[d];exact ay ..
     ·cases B:u.lA with
      |nil=>rw[B] at d;simp at d
      |cons c r=>rw[B] at d;simp at d;rw[d.1];exact ay ..
    (have O:(a,(k:Int))∈kW.1:=(i.lk.qB _ _).2 (by rw[y0 m];exact N);have P:b≠w.id:=by rintro rfl;rw[hl.DR.2 ⟨y,rfl⟩] at j;simp only[aW,cD] at j;have C:=o A w.lZ (Y4 hp);rw[j] at C;have:=AG i.lk.one C O;omega);rw[e,hl.Pe (by rw[z];exact hl.2 w y),ai (by rw[z];exact P)];exact j
theorem Qt{t u:lr}(h:fx t=fx u):pD t=pD u:=by obtain⟨a,b,a3,a4,a5,c,d,e,a9,f⟩:=t;obtain⟨b1,b2,b3,b4,b5,b6,b7,g,i,j⟩:=u;simp only[fx,bE] at h;obtain⟨rfl,rfl,rfl,rfl,rfl,rfl,rfl,rfl⟩:=h;rfl
structure yp(W:Nat->Prop)(s0:lD)(i:Nat)(s:lD):Prop where
 rest:s={s0 with kW:=s.kW,kK:=s.kK}
 nU:pP (λk=>W k/\i<=k) s0.kR.kP.ns s.kW s.kK
 len:s.kK.length=s0.kK.length
 kK:∀(k:Nat) (t:lr),s0.kK[k]? =some t->∃t',s.kK[k]? =some t'/\fx t'=fx t/\(vt s.kW k t'=vt s0.kW k t\/(t.done=false/\qi t.call=true/\vt s.kW k t'=pD t))
theorem yp.step{W:Nat->Prop}{s0 s:lD}{i n:Nat}(h:yp W s0 i s)(B:∀k t,W k->s0.kK[k]? =some t->qi t.call=true)(C:∀t,s0.kK[n]? =some t->t.done=true):yp W s0 (i+1) (rB n s i):=by
 have D:∀(k:Nat) (t':lr),s.kK[k]? =some t'->∃t,s0.kK[k]? =some t:=by intro k t' E;have:=(ax.1 E).1;have:=h.len;exact⟨s0.kK[k]'Zo,ad _⟩
 unfold rB;split
 ·rename_i a;unfold Ak at a;cases l:s.kK[i]? with
  |none=>rw[l] at a;simp at a
  |some t=>
   rw[l] at a;simp only[aF,cJ,bne_iff_ne,ne_eq] at a;obtain⟨J,F,r⟩:=a;obtain⟨d,p,v,w⟩:=h.nU.again l r;generalize u6 s.kW i=y at*;obtain⟨m,G⟩:=y;simp only at d p v w⊢;rw[Qd];refine⟨by rw[h.rest],?_,?_,?_⟩;·refine⟨d.lk,d.tQ,λk u c f q=>d.ok k u c f (λe=>q ⟨e.1.1,by omega⟩),d.bd,d.mS⟩
   ·show(s6 (s.kK.modify i pD) G).length=_;rw[p.len,h.len]
   ·intro k t0 j;obtain⟨x,g,b,H⟩:=h.kK k t0 j;by_cases o:k=i;·(subst o;rw[l] at g;cases g;refine⟨pD t,v,?_,.inr ⟨by rw[<-wJ b];exact r,by rw[<-zQ b];exact F,?_⟩⟩;·rw[<-b];rfl);·show vt m k (pD t)=_;rw[rP w];exact Qt b
    ·(obtain⟨t2,I,z⟩:=p.vt k x o g;refine⟨t2,I,?_,?_⟩;·rw[<-b,<-wI m k t2,z,wI]);·show vt m k t2=_\/_/\_/\vt m k t2=_;rw[z];exact H
 ·rename_i a;refine⟨h.rest,⟨h.nU.lk,h.nU.tQ,λk u c f q=>?_,h.nU.bd,h.nU.mS⟩,h.len,h.kK⟩;by_cases o:k=i
  ·subst o;by_cases A:W k;·exfalso;obtain⟨t0,j⟩:=D k u c;obtain⟨x,g,b,_⟩:=h.kK k t0 j;rw[c] at g;cases g;refine a ?_;unfold Ak;rw[c];simp only[aF,cJ,bne_iff_ne,ne_eq];refine⟨?_,by rw[zQ b];exact B k t0 A j,f⟩;rintro rfl;have:=C t0 j;rw[<-wJ b,f] at this;cases this
   ·exact h.nU.ok k u c f (λe=>A e.1)
  ·exact h.nU.ok k u c f (λe=>q ⟨e.1,by omega⟩)
theorem yp.AE{W:Nat->Prop}{s0:lD}{n:Nat}(h:yp W s0 0 s0)(a:∀k t,W k->s0.kK[k]? =some t->qi t.call=true)(b:∀t,s0.kK[n]? =some t->t.done=true):∀i:Nat,yp W s0 i ((List.range i).foldl (rB n) s0)
 |0=>h
 |i+1=>by rw[dz,bV];exact(yp.AE h a b i).step a b
theorem Y6{ns qp:List la}{t:lr}(d:t.done=false)(f:t.mS=false)(l:t.lA.length<=3)(h:(nf t.call=.plain/\t.lA=[])\/(nf t.call=.pT/\t.lA=ry ns t.call)\/(∃ll a,nf t.call=.U ll/\t.lA=[a])){u:lr}(g:u.done=true)(i:u.mS=false)(j:u.call=t.call)(k:u.lA=t.lA):nW qp false u+1<=nW ns false t:=by
 unfold nW;rw[d,f,g,i,j,k];simp only[aM,bH,cc];rcases h with⟨b,c⟩|⟨b,c⟩|⟨ll,a,b,c⟩
 ·rw[b,c];simp only[bm];split<;>omega
 ·have:t.call.kind≠12:=λe=>by rw[Qq e] at b;cases b
  rw[ai this,b];simp only;omega
 ·have:t.call.kind≠12:=λe=>by rw[Qq e] at b;cases b
  rw[ai this,b,c];simp only[aG,bm];omega
theorem Y7(q:Nat):(q+1)*q=q*(q-1)+2*q:=by
 cases q with
 |zero=>rfl
 |succ p=>rw[iZ];simp only[bW,jJ,eL,kB];omega
theorem m5.Y8{C:Nat}{N:Int}{x:lD}(h:m5 C N x){n:Nat}{t:lr}(E:x.kK[n]? =some t)(he:t.mS=false)(M:t.done=false)(T:pl x.kW (n:Int)=none)(hg:oU x.k6 (n:Int)=false){l:Int}(hn:pZ x.kR.kP.ns t=(3,l)):m5 C (N+1) (pz {x with lp:=x.lp+1} n (3,l))/\sI (pz {x with lp:=x.lp+1} n (3,l))<sI x:=by
 have kO:n<x.kK.length:=(ax.1 E).1;have kQ:=h.nU.ok n t E M (λe=>e);rw[rP T] at kQ;have kT:=Qh kQ M he hn;have kX:=h.nU.bd n t E;rw[rP T] at kX;have J:=Hm h.kR t.call;have lm:=h.kK t (ar E);have lq:nf t.call=.pT->t.lA=ry x.kR.kP.ns t.call:=by
  intro e;rcases kT with⟨j,_⟩|⟨_,j⟩|⟨_,_,j,_⟩
  ·rw[e] at j;cases j
  ·exact j
  ·rw[e] at j;cases j
 have e0:pz {x with lp:=x.lp+1} n (3,l)=qJ {x with lp:=x.lp+1} n (3,l):=by unfold pz;dsimp only;rw[ai Zd,ai Zd,aj rfl]
 rw[e0];unfold qJ;dsimp only;rw[E];simp only;generalize py x.kR t.call=r at*;obtain⟨m,a,Z⟩:=r;dsimp only at J⊢;have lL:(x.Z++Z).length=x.Z.length+Z.length:=ak;generalize hf:(λt:lr=>mO {t with lM:=a,mark:=x.lp+1,mV:=((x.Z++Z).length:Nat)} (3,l))=f;have z:∀u:lr,f u={u with lM:=a,mark:=x.lp+1,mV:=((x.Z++Z).length:Nat),done:=true}:=by intro u;rw[<-hf];rfl
 have I:=ym E f;have G:∀k:Nat,k≠n->(x.kK.modify n f)[k]? =x.kK[k]?:=λk p=>vS f p;have kY:pP (λ_=>False) x.kR.kP.ns x.kW (x.kK.modify n f):=by
  refine h.nU.map Zs (λk u v B K=>?_);by_cases p:k=n;·subst p;rw[E] at B;cases B;rw[I] at K;cases K;rw[z];refine⟨⟨rfl,rfl,rfl,λ_=>rfl,λe=>.inl e⟩,λ_=>.inr T⟩
  ·rw[G k p,B] at K;cases K;exact⟨⟨rfl,rfl,rfl,id,.inl⟩,.inl⟩
 let W:Nat->Prop:=λk=>(t.call.kind=13/\a.err=0)/\∃u,x.kK[k]? =some u/\qi u.call=true;have O:pP W m.kP.ns x.kW (x.kK.modify n f):=by
  refine kY.Kw (λk u b y hX=>?_);have p:k≠n:=by rintro rfl;rw[I] at b;cases b;rw[z] at y;cases y
  rw[G k p] at b;refine Qs h.nU h.kR.w.ns h.kR.w.Hd E lq J.pb b p (h.nU.ok k u b y (λe=>e)) (λj H=>?_);cases V:qi u.call with
  |false=>rfl
  |true=>exact absurd ⟨⟨j,H⟩,u,b,V⟩ hX
 generalize L:({x with lp:=x.lp+1,kR:=m,Z:=x.Z++Z,kK:=x.kK.modify n f}:lD)=s1;have kZ:yp W s1 0 s1:=by subst L;refine⟨rfl,?_,rfl,λk u b=>⟨u,b,rfl,.inl rfl⟩⟩;exact⟨O.lk,O.tQ,λk u b y hX=>O.ok k u b y (λe=>hX ⟨e,aR _⟩),O.bd,O.mS⟩
 have lu:∀k t,W k->s1.kK[k]? =some t->qi t.call=true:=by
  rintro k u ⟨_,u0,kG,V⟩ b;subst L;by_cases p:k=n;·subst p;rw[E] at kG;cases kG;rw[show({x with lp:=x.lp+1,kR:=m,Z:=x.Z++Z,kK:=x.kK.modify k f}:lD).kK[k]? =some (f t) from I] at b;cases b;rw[z];exact V
  ·rw[show({x with lp:=x.lp+1,kR:=m,Z:=x.Z++Z,kK:=x.kK.modify n f}:lD).kK[k]? =x.kK[k]? from G k p,kG] at b;cases b;exact V
 have lx:∀t,s1.kK[n]? =some t->t.done=true:=by intro u b;subst L;rw[show({x with lp:=x.lp+1,kR:=m,Z:=x.Z++Z,kK:=x.kK.modify n f}:lD).kK[n]? =some (f t) from I] at b;cases b;rw[z]
 have k5:∀s:lD,(∃i,yp W s1 i s/\(∀k,W k->i<=k->k<x.kK.length->False))->m5 C (N+1) s/\sI s<sI x:=by
  rintro s ⟨i,P,k7⟩;obtain⟨F,d,Q⟩:∃F d,s={s1 with kW:=F,kK:=d}:=⟨_,_,P.rest⟩;have k8:d.length=x.kK.length:=by have:=P.len;rw[Q,<-L] at this;simpa using this
  have X:∀(k:Nat) (u:lr),(x.kK.modify n f)[k]? =some u->∃v,d[k]? =some v/\fx v=fx u/\(vt F k v=vt x.kW k u\/(u.done=false/\qi u.call=true/\vt F k v=pD u)):=by have:=P.kK;rw[Q,<-L] at this;exact this
  have Y:pP (λ_=>False) m.kP.ns F d:=by have B:=P.nU;rw[Q,<-L] at B;refine⟨B.lk,B.tQ,λk u b y _=>B.ok k u b y (λe=>k7 k e.1 e.2 ?_),B.bd,B.mS⟩;have:=(ax.1 b).1;omega
  have ly:s={x with lp:=x.lp+1,kR:=m,Z:=x.Z++Z,kW:=F,kK:=d}:=by rw[Q,<-L]
  clear P k7 Q;subst ly;have lz:∀(k:Nat) (v:lr),d[k]? =some v->∃u,(x.kK.modify n f)[k]? =some u:=by intro k v kH;have:=(ax.1 kH).1;exact⟨(x.kK.modify n f)[k]'(by simp;omega),ad _⟩
  have kI:∀(k:Nat) (u:lr),(x.kK.modify n f)[k]? =some u->u.done=true->d[k]? =some u:=by
   intro k u b y;obtain⟨v,j,H,D⟩:=X k u b;rcases D with D|⟨D,_⟩
   ·rw[rP (kY.AJ b y),rP (Y.AJ j (by rw[wJ H];exact y))] at D;rw[j,D]
   ·rw[y] at D;cases D
  have lB:∀(k:Nat) (u v:lr),(x.kK.modify n f)[k]? =some u->d[k]? =some v->fx v=fx u:=by intro k u v B K;obtain⟨u2,j,H,_⟩:=X k u B;rw[K] at j;cases j;exact H
  have kF:d[n]? =some (f t):=kI n (f t) I (by rw[z]);refine⟨⟨J.i,Y,⟨by have:=h.lp;show 0<=x.lp+1;omega,by have:=h.lp;show x.lp+1<=N+1;omega⟩,by show d.length<=40;rw[k8];exact h.tz,⟨h.mD.1,by have:=h.mD.2;show x.k6.1<=((x.Z++Z).length:Nat);omega⟩,h.AK,?_,?_,?_,?_,?_⟩,?_⟩
  ·intro w lE;obtain⟨g1,g2,k,u,g3,g4,g5,g6⟩:=h.k6 w lE;have p:k≠n:=by rintro rfl;rw[E] at g4;cases g4;rw[M] at g5;cases g5
   exact⟨g1,by show w.2<=((x.Z++Z).length:Nat);omega,k,u,g3,kI k u (by rw[G k p];exact g4) g5,g5,g6⟩
  ·intro mz;have:=mz (f t) (ar kF);rw[z] at this;cases this
  ·intro v kH;obtain⟨k,p⟩:=AL kH;obtain⟨u,b⟩:=lz k v p;have kJ:=lB k u v b p;have j:v.lM=u.lM:=congrArg (·.2.2.2.2.2.2.2) kJ;have H:v.mV=u.mV:=congrArg (·.2.2.2.1) kJ;have D:=zQ kJ;refine⟨?_,?_,?_,?_⟩<;>(try rw[j])<;>(try rw[H])<;>(try rw[D])<;>by_cases A:k=n;·subst A;rw[I] at b;cases b;rw[z];exact lm.call
   ·rw[G k A] at b;exact(h.kK u (ar b)).call
   ·subst A;rw[I] at b;cases b;rw[z];exact J.ll
   ·rw[G k A] at b;exact(h.kK u (ar b)).ll
   ·subst A;rw[I] at b;cases b;rw[z];exact J.l9
   ·rw[G k A] at b;exact(h.kK u (ar b)).l9
   ·subst A;rw[I] at b;cases b;rw[z];exact⟨by show(0:Int)<=((x.Z++Z).length:Nat);omega,fJ _⟩
   ·rw[G k A] at b;have:=(h.kK u (ar b)).mV;exact⟨this.1,by show u.mV<=((x.Z++Z).length:Nat);omega⟩
  ·intro o R;rcases aQ.1 R with R|R
   ·exact h.Z o R
   ·exact J.ok o R
  ·show(x.Z++Z).length<=C+m.kP.es.length;have:=h.zR;have h6:=J.len;dsimp only at h6;omega
  ·
    have k9:∀k,k≠n->pL d k=pL x.kK k:=by
     intro k p;cases b:x.kK[k]? with
     |none=>(have:d[k]? =none:=by rw[ei] at b⊢;omega);unfold pL;rw[b,this]
     |some u=>obtain⟨v,j,H,_⟩:=X k u (by rw[G k p];exact b);rw[y2 b,y2 j,wJ H]
    have kL:pL x.kK n=1:=by rw[y2 E,M];rfl
    have lc:pL d n=0:=by rw[y2 kF,z];rfl
    have lH:pK (pL d) x.kK.length+1<=pK (pL x.kK) x.kK.length:=Ed kO (λk p A=>by rw[k9 k A];exact aA _) (by rw[kL,lc];exact aA _);have lI:pK (pL x.kK) x.kK.length<=pK (pL d) x.kK.length+1:=by
     have h3:=Ec (f:=pL x.kK) (g:=λk=>pL d k+(if k=n then 1 else 0)) (n:=x.kK.length) (λk p=>by(by_cases A:k=n;·subst A;rw[kL,lc,aj rfl];exact aA _);·rw[k9 k A,ai A];exact aA _);rw[Hr] at h3;have h4:∀m:Nat,pK (λk=>if k=n then 1 else 0) m<=1/\(m<=n->pK (λk=>if k=n then 1 else 0) m=0):=by
      intro m;induction m with
      |zero=>exact⟨aR _,λ_=>rfl⟩
      |succ m ih=>(simp only[pK];by_cases S:m=n;·subst S;have:=ih.2 (aA _);rw[aj rfl];exact⟨by omega,λh=>by omega⟩);·rw[ai S];exact⟨by omega,λh=>by have:=ih.2 Zo;omega⟩
     have:=(h4 x.kK.length).1;omega
    (obtain⟨q,hq⟩:∃q,pK (pL x.kK) x.kK.length=q+1:=⟨pK (pL x.kK) x.kK.length-1,by omega⟩;have lF:pK (pL d) x.kK.length=q:=by omega);have lG:=Ed (f:=vT {x with lp:=x.lp+1,kR:=m,Z:=x.Z++Z,kW:=F,kK:=d}) (g:=λk=>vT x k+34*pL x.kK k) (i:=n) (c:=35) (n:=x.kK.length) kO (λk p A=>by
     (have b:x.kK[k]? =some x.kK[k]:=ad p;generalize x.kK[k]=u at b;have lg:(x.kK.modify n f)[k]? =some u:=by rw[G k A];exact b);obtain⟨v,j,H,D⟩:=X k u lg;rw[xg b,y2 b,xg (x:={x with lp:=x.lp+1,kR:=m,Z:=x.Z++Z,kW:=F,kK:=d}) j];show nW m.kP.ns (oU x.k6 (k:Int)) (vt F k v)<=_;cases y:u.done with
     |true=>have h5:=kI k u lg y;rw[j] at h5;cases h5;rw[rP (Y.AJ j y),rP (h.nU.AJ b y)];unfold nW;rw[y];simp
     |false=>
      (simp only[aM,bH];rcases D with D|⟨_,e4,e5⟩);·rw[D];exact YW _ _ _ _
      ·(rw[e5];by_cases lh:u.mS=true;·have:=h.nU.mS u (ar b) lh;rw[y] at this;exact absurd this.1 Zs);·have hv:=wI x.kW k u;rw[<-Qt hv];exact YX _ _ _ _ (by rw[wJ hv];exact y) (by rw[Qb hv];simpa using lh) (by rw[zQ hv];exact e4)) (by
     rw[xg E,kL,xg (x:={x with lp:=x.lp+1,kR:=m,Z:=x.Z++Z,kW:=F,kK:=d}) kF];show nW m.kP.ns (oU x.k6 (n:Int)) (vt F n (f t))+35<=_;rw[hg,rP T,rP (Y.AJ kF (by rw[z]))];have:=Y6 (ns:=x.kR.kP.ns) (qp:=m.kP.ns) M he kX.1 kT (u:=f t) (by rw[z]) (by rw[z];exact he) (by rw[z]) (by rw[z]);omega)
    rw[Hr,Kz,hq] at lG;unfold sI tR;show pK (vT {x with lp:=x.lp+1,kR:=m,Z:=x.Z++Z,kW:=F,kK:=d}) d.length+17*(pK (pL d) d.length*(pK (pL d) d.length-1))<_;rw[k8,lF,hq,iZ,Y7];omega
 split;·rename_i S;refine k5 _ ⟨x.kK.length,?_,λk _ B K=>by omega⟩;exact yp.AE kZ lu lx _
 ·rename_i S;exact k5 _ ⟨0,kZ,λk p _ _=>S p.1⟩
end Top
namespace Top
open YtkbifmngmocjnaaGreatDoor
theorem Qu{ns:List la}{t:lr}(a:t.mS=false):(pZ ns t).1=1\/(pZ ns t).1=2\/(pZ ns t).1=3\/(pZ ns t).1=4\/(pZ ns t).1=5:=by
 cases b:t.done with
 |true=>
  rw[Eb b a];split;·simp
  ·split<;>simp
 |false=>
  rw[CE b a];split;·simp
  ·split<;>simp
  ·split;·simp
   ·simp
   ·split;·simp
    ·split;split<;>simp
theorem Hs{x:lD}{p:Int}{ng:Bool}{kU:Nat}{w:Bool}(h:tM x p=some (kU,w)):nm x p ng=if w then ob {x with lp:=x.lp+1} kU ng else match x.kK[kU]? with
 |none=>{x with lp:=x.lp+1}
 |some t=>pz {x with lp:=x.lp+1} kU (pZ x.kR.kP.ns t):=by
 unfold nm;rw[h];rfl
theorem Y9(s:lD)(n:Nat)(l:Int){t:lr}(a:s.kK[n]? =some t):pz s n (2,l)={s with kW:=(pw s.kW n l).1,kK:=s6 (s.kK.set n (mO t (2,l))) (xH l (pw s.kW n l).2)}:=by unfold pz;dsimp only;rw[ai Zd,aj rfl];generalize pw s.kW n l=y;obtain⟨b,o⟩:=y;rw[Qk a];cases o<;>rfl
theorem m5.step{C:Nat}{N:Int}{x:lD}(h:m5 C N x)(p:Int)(ng:Bool)(D:pa x≠[]):m5 C (N+1) (nm x p ng)/\sI (nm x p ng)<sI x:=by
 obtain⟨n,E,hp⟩:=KA p D;obtain⟨t,a,b,r,o⟩:=Fw.1 E;rw[Hs hp];cases q:oU x.k6 (n:Int) with
 |true=>
  rw[aj rfl];rcases o with o|o
  ·rw[q] at o;cases o
  ·exact h.tY a b o ng
 |false=>
  rw[ai Zs,a];simp only;have j:vt x.kW n t=t:=rP r t;have F:t.lA.Nodup:=by have:=h.nU.lk.nd (n:Int);rwa [y0 a] at this
  have A:=Qu (ns:=x.kR.kP.ns) b;cases c:pZ x.kR.kP.ns t with
  |mk k l=>
   rw[c] at A;dsimp only at A;rcases A with rfl|rfl|rfl|rfl|rfl
   ·
     have d:t.done=false:=by
      cases d:t.done with
      |false=>rfl
      |true=>(rw[Eb d b] at c;split at c;·simp at c);·split at c<;>simp at c
     (have s:=h.nU.ok n t a d (λe=>e);rw[j] at s;obtain⟨g,m,i,B⟩:=YR h.kR.w.ns h.kR.w.Hd s d b c false;obtain⟨u,v,t',y,f⟩:=h.nU.take a d b r g m;have e:pz {x with lp:=x.lp+1} n (1,l)={x with lp:=x.lp+1,kW:=(qV x.kW n l).1,kK:=if(qV x.kW n l).2 then x.kK.modify n λt=>mO t (1,l) else x.kK}:=by unfold pz;dsimp only;rw[aj rfl]);rw[e];refine h.Fp a q u v y (by rw[f];rfl) (by rw[f,j];exact i) (λz _=>by rw[f];rw[j] at z;exact B z)
   ·
     rw[Y9 _ n l (show({x with lp:=x.lp+1}:lD).kK[n]? =some t from a)];cases d:t.done with
     |false=>have s:=h.nU.ok n t a d (λe=>e);rw[j] at s;obtain⟨g,m,i,B⟩:=YS s F d b c false;obtain⟨u,v,y,f⟩:=h.nU.Qm a r g b (λ_ _=>m);refine h.Fp a q u v y (by rw[rP f];rfl) (by rw[rP f,j];exact i) (λz _=>by rw[rP f];rw[j] at z;exact B z)
     |true=>obtain⟨g,i⟩:=YT d b c;obtain⟨u,v,y,f⟩:=h.nU.Qm a r g b (λe=>by rw[d] at e;cases e);refine h.Fp a q u v y (by rw[rP f];rfl) (by rw[rP f,j];exact i) (λ_ e=>by rw[d] at e;cases e)
   ·exact h.Y8 a b (Qi b c) r q c
   ·obtain⟨g,m,i⟩:=Qj b (.inl rfl) c;exact h.se a b g m (i.1 rfl) q l
   ·obtain⟨g,m,i⟩:=Qj b (.inr rfl) c;exact h.Y1 a b g m (λe=>by have:=i.2 e;omega) l
theorem m5.up{C:Nat}{N M:Int}{x:lD}(h:m5 C N x)(a:N<=M):m5 C M x:=⟨h.kR.up Zo,h.nU,⟨h.lp.1,by have:=h.lp;omega⟩,h.tz,h.mD,h.AK,h.k6,h.first,h.kK,h.Z,h.zR⟩
theorem Za{x:lD}{p:Int}{ng:Bool}(h:pa x=[]):nm x p ng=x:=by unfold nm tM;rw[aj h]
theorem m5.y3{C:Nat}{N:Int}{x:lD}(h:m5 C N x)(p:Int)(ng:Bool):m5 C (N+1) (nm x p ng):=by
 by_cases a:pa x=[];·rw[Za a];exact h.up Zo
 ·exact(h.step p ng a).1
theorem Zc{l:List la}(f:uu l){b:Int}:∀{e:Int},b∈oH l e->∀{a:Int},a∈oH l b->a∈oH l e:=by
 obtain⟨r,g⟩:=f;have f:uu l:=⟨r,g⟩;have mz:∀(m:Nat) (e:Int),r e<=m->b∈oH l e->∀{a:Int},a∈oH l b->a∈oH l e:=by
  intro m;induction m with
  |zero=>intro e h c;have:=Fl g _ _ _ c;omega
  |succ m i=>
   intro e h c a d;cases hf:nr l e with
   |none=>rw[Hc hf] at c;simp at c
   |some n=>
    by_cases hp:n.lZ=-1;·rw[Pg hf hp] at c;simp at c
    ·(rw[f.DU hf hp] at c⊢;have j:=g n (ur hf).1;rw[(ur hf).2] at j;rcases aJ.1 c with k|c);·rw[<-k];exact aI _ d
     ·exact aI _ (i n.lZ Zo c d)
 intro e c a d;exact mz (r e) e (aA _) c d
theorem m5.tQ{C:Nat}{N:Int}{x:lD}(h:m5 C N x)(kX:pa x=[]):tN x=true:=by
 have kH:∀(k:Nat) (t:lr),x.kK[k]? =some t->t.mS=false->pl x.kW (k:Int)=none->oU x.k6 (k:Int)=true/\∀w r,x.k6.2=w::r->w.1≠(k:Int):=by
  intro k t o G D;have:k∉pa x:=by rw[kX];simp
  rw[Fw] at this;refine⟨?_,λw r K e=>this ⟨t,o,G,D,.inr ⟨w,r,K,e⟩⟩⟩;cases K:oU x.k6 (k:Int) with
  |true=>rfl
  |false=>exact absurd ⟨t,o,G,D,.inl K⟩ this
 have kY:x.k6.2=[]:=by
  cases K:x.k6.2 with
  |nil=>rfl
  |cons w r=>obtain⟨_,_,k,t,e1,y,E,I,_⟩:=h.k6 w (by rw[K];exact ay ..);exact absurd e1 ((kH k t y I (h.nU.AJ y E)).2 w r K)
 have kI:∀(k:Nat) (t:lr),x.kK[k]? =some t->t.mS=false->∃l,pl x.kW (k:Int)=some l:=by
  intro k t o G;cases D:pl x.kW (k:Int) with
  |some l=>exact⟨l,rfl⟩
  |none=>have:=(kH k t o G D).1;unfold oU at this;rw[kY] at this;cases this
 unfold tN;rw[aK];intro t0 kZ;cases k5:t0.mS with
 |true=>rfl
 |false=>
  exfalso;obtain⟨k0,k7⟩:=AL kZ;obtain⟨l0,k8⟩:=kI k0 t0 k7 k5;have z:=h.nU.lk;have hl:=h.kR.w.ns;have O:=h.kR.w.Hd;obtain⟨r,W⟩:=O;have O:uu x.kR.kP.ns:=⟨r,W⟩;have qB:∀l n,(l,n)∈x.kW.1->∃(k:Nat) (t:lr) (l':Int),n=(k:Int)/\x.kK[k]? =some t/\l∈t.lA/\t.done=false/\(l',(k:Int))∈x.kW.2/\pi x.kR.kP.ns (vt x.kW k t)/\(vt x.kW k t).lA=t.lA++[l']:=by
   intro l n P;obtain⟨k,t,rfl,o,g⟩:=Ks ((z.qB l n).1 P);have G:t.mS=false:=by
    cases G:t.mS with
    |false=>rfl
    |true=>have:=(h.nU.mS t (ar o) G).2;rw[this] at g;simp at g
   obtain⟨l',X⟩:=kI k t o G;have T:=(CD z).1 X;obtain⟨V,t',e1,y,E⟩:=h.nU.tQ _ _ T;have:V=k:=by omega
   subst this;rw[o] at y;cases y;refine⟨V,t,l',rfl,o,g,E,T,h.nU.ok V t o E (λe=>e),?_⟩;rcases Hp x.kW V t with⟨I,_⟩|⟨L,I,e5⟩
   ·rw[X] at I;cases I
   ·rw[X] at I;cases I;exact e5
  obtain⟨B,Y⟩:∃B,∀n∈x.kR.kP.ns,r n.id<=B:=by
   generalize x.kR.kP.ns=l;induction l with
   |nil=>exact⟨0,by simp⟩
   |cons a l ih=>(obtain⟨B,Y⟩:=ih;refine⟨B+r a.id,λn Q=>?_⟩;rcases aJ.1 Q with rfl|Q;·omega);·have:=Y n Q;omega
  have kJ:∀(m:Nat) (l n:Int),B+1<=r l+m->(l,n)∈x.kW.1->∃(k:Nat) (t:lr) (e l':Int),x.kK[k]? =some t/\nf t.call=.pT/\e∈t.lA/\(l',(k:Int))∈x.kW.2/\(t.lA++[l'])<+:ry x.kR.kP.ns t.call/\(e=l\/l∈oH x.kR.kP.ns e):=by
   intro m;induction m with
   |zero=>
    intro l n T P;obtain⟨k,t,l',rfl,o,g,hd,D,i,kF⟩:=qB l n P;unfold pi at i;rw[zQ (wI x.kW k t),kF] at i;cases F:nf t.call with
    |plain=>rw[F] at i;simp at i
    |pT=>rw[F] at i;exact⟨k,t,l,l',o,F,g,D,i.1,.inl rfl⟩
    |U ll=>
     (rw[F] at i;rcases i with⟨f,_⟩|⟨a,f,_⟩|⟨a,b,f,g2,A,R,_⟩);·simp at f
     ·cases j:t.lA with
      |nil=>rw[j] at g;simp at g
      |cons c p=>rw[j] at f;simp at f
     ·obtain⟨nd,H⟩:=cp.1 R;have h1:=W nd (ur H.1).1;have h2:=Y nd (ur H.1).1;have k9:l=a:=by
       cases j:t.lA with
       |nil=>rw[j] at g;simp at g
       |cons c p=>
        rw[j] at f g;cases p with
        |nil=>simp at f g;rw[g,f.1]
        |cons d p=>simp at f
      rw[H.2,<-k9] at h1;omega
   |succ m ih=>
    intro l n T P;obtain⟨k,t,l',rfl,o,g,hd,D,i,kF⟩:=qB l n P;unfold pi at i;rw[zQ (wI x.kW k t),kF] at i;cases F:nf t.call with
    |plain=>rw[F] at i;simp at i
    |pT=>rw[F] at i;exact⟨k,t,l,l',o,F,g,D,i.1,.inl rfl⟩
    |U ll=>
     (rw[F] at i;rcases i with⟨f,_⟩|⟨a,f,_⟩|⟨a,b,f,g2,A,R,_⟩);·simp at f
     ·cases j:t.lA with
      |nil=>rw[j] at g;simp at g
      |cons c p=>rw[j] at f;simp at f
     ·have lc:l=a/\l'=b:=by
       cases j:t.lA with
       |nil=>rw[j] at g;simp at g
       |cons c p=>
        rw[j] at f g;cases p with
        |nil=>simp at f g;exact⟨by rw[g,f.1],f.2⟩
        |cons d p=>simp at f
      (obtain⟨rfl,rfl⟩:=lc;obtain⟨nd,H,kG⟩:=cp.1 R;have h1:=W nd (ur H).1;rw[kG,(ur H).2] at h1;obtain⟨w,_,lg⟩:=z.se _ _ D;obtain⟨k2,t2,e,L,f1,f2,f3,f4,f5,f6⟩:=ih l' w Zo lg;have lh:nd.lZ≠-1:=by rw[kG];rintro rfl;exact absurd g2 Zd);have M:l∈oH x.kR.kP.ns l':=by rw[O.DU H lh,kG];exact ay ..
      (refine⟨k2,t2,e,L,f1,f2,f3,f4,f5,.inr ?_⟩;rcases f6 with rfl|f6);·exact M
      ·exact Zc O f6 M
  have kL:∀{k:Nat} {t:lr} {l':Int},x.kK[k]? =some t->t.lA≠[]->(t.lA++[l'])<+:ry x.kR.kP.ns t.call->(1,(k:Int))∈x.kW.1:=by
   intro k t l' o lm hp;rw[z.qB,y0 o];cases j:t.lA with
   |nil=>exact absurd j lm
   |cons a p=>rw[j,zO,bQ,eT] at hp;rw[hp.1];exact ay ..
  have lq:oH x.kR.kP.ns 1=[]:=Hc (Cv.2 λn Q e=>by have:=hl.2 n Q;rw[e] at this;exact absurd this Zd);obtain⟨n0,_,lu⟩:=z.se _ _ ((CD z).1 k8);obtain⟨k,t,e,l',f1,f2,f3,f4,f5,_⟩:=kJ (B+1) l0 n0 Zo lu;have lx:=kL f1 (by intro e';rw[e'] at f3;simp at f3) f5;obtain⟨n1,ly,kO⟩:=z.se _ _ f4;obtain⟨k2,t2,y,L,f,g2,A,R,g5,S⟩:=kJ (B+1) l' n1 Zo kO;have lz:=kL f (by intro e';rw[e'] at A;simp at A) g5;have lB:k2=k:=by have:=AG z.one lx lz;omega
  subst lB;rw[f1] at f;cases f;have lE:L=l':=Ea z.yi R f4;subst lE;have lF:y≠L:=by rintro rfl;have:=(z.qB y (k2:Int)).2 (by rw[y0 f1];exact A);exact ly (AG z.one kO this)
  have M:L∈oH x.kR.kP.ns y:=by
   rcases S with S|S;·exact absurd S lF
   ·exact S
  have kQ:y≠1:=by rintro rfl;rw[lq] at M;simp at M
  have lL:=J3 x.kR.kP.ns t.call;have H:=J2 x.kR.kP.ns t.call;obtain⟨rest,s⟩:=f5;cases j:t.lA with
  |nil=>rw[j] at A;simp at A
  |cons a p=>
   rw[j] at s A;rw[zO] at s lL;simp only[bQ,cH] at s;obtain⟨kT,s⟩:=s;cases p with
   |nil=>rw[kT] at A;exact kQ (aE.1 A)
   |cons b p=>
    cases p with
    |cons c p=>have:=congrArg List.length s;simp at this lL;omega
    |nil=>
     (have lG:y=b:=by(rcases aJ.1 A with E|E;·rw[kT] at E;exact absurd E kQ);·exact aE.1 E);subst lG;have lH:rest=[]:=by have:=congrArg List.length s;simp at this lL;exact fD.1 Zo
     rw[lH] at s;simp only[bQ,aS,aP] at s;have lI:∃u v,zN x.kR.kP.ns t.call=[u,v]:=by
      have J:=(Fo x.kR.kP.ns (zN x.kR.kP.ns t.call)).length_eq;rw[<-s] at J;cases hq:zN x.kR.kP.ns t.call with
      |nil=>rw[hq] at J;simp at J
      |cons u q=>
       cases q with
       |nil=>rw[hq] at J;simp at J
       |cons v q=>
        cases q with
        |nil=>exact⟨u,v,rfl⟩
        |cons w q=>rw[hq] at J;simp at J
     obtain⟨u,v,lJ⟩:=lI;rw[lJ] at s;exact XD hl O s.symm M
theorem Ze{x:lD}(h:tN x=true):pa x=[]:=by rw[fI];intro k b;obtain⟨t,c,a,_⟩:=Fw.1 b;unfold tN at h;rw[aK] at h;rw[h t (ar c)] at a;cases a
theorem m5.held{C:Nat}{N:Int}{x:lD}(h:m5 C N x)(a:tN x=true):x.kW.1=[]:=by rw[fI];rintro⟨l,n⟩ d;obtain⟨k,t,rfl,b,c⟩:=Ks ((h.nU.lk.qB l n).1 d);unfold tN at a;rw[aK] at a;have:=(h.nU.mS t (ar b) (a t (ar b))).2;rw[this] at c;simp at c
theorem m5.Zf{C:Nat}{N:Int}{x:lD}(h:m5 C N x):sI x<=45*x.kK.length*x.kK.length:=by
 have B:tR x<=x.kK.length:=by have:=Ec (f:=pL x.kK) (g:=λ_=>1) (n:=x.kK.length) (λk _=>by unfold pL;split<;>(try split)<;>omega);rw[Fv] at this;unfold tR;omega
 cases lL:x.kK.length with
 |zero=>
  have s:tR x=0:=by omega
  unfold sI;rw[s,lL];simp[pK]
 |succ m=>
  have u:45*(m+1)*(m+1)=45*(m*m)+90*m+45:=by simp only[jJ,bW,eL,Nat.mul_assoc];omega
  rw[u];by_cases mz:∀t∈x.kK,t.done=false;·have j:=Ec (f:=vT x) (g:=λ_=>36) (n:=x.kK.length) (λk l=>by have a:x.kK[k]? =some x.kK[k]:=ad l;rw[xg a];have d:=mz _ (bv l);exact YV (by rw[wJ (wI x.kW k x.kK[k])];exact d) (h.nU.ok k _ a d (λe=>e)) (h.first mz k _ a));rw[Fv,lL] at j;have q:tR x*(tR x-1)<=(m+1)*m:=gb Zo Zo;rw[bW,kB] at q;unfold sI;rw[lL];omega
  ·obtain⟨t0,v,w⟩:∃t∈x.kK,t.done=true:=by
    apply Classical.byContradiction;intro o;refine mz (λt a=>?_);cases d:t.done with
    |false=>rfl
    |true=>exact absurd ⟨t,a,d⟩ o
   obtain⟨k0,r⟩:=AL v;have y:=Ed (f:=pL x.kK) (g:=λ_=>1) (i:=k0) (c:=1) (n:=x.kK.length) (ax.1 r).1 (λk _ _=>by unfold pL;split<;>(try split)<;>omega) (by rw[y2 r,w];simp);rw[Fv] at y;have z:tR x<=m:=by unfold tR;omega
   have j:=Ec (f:=vT x) (g:=λk=>5+64*pL x.kK k) (n:=x.kK.length) (λk l=>by
    have a:x.kK[k]? =some x.kK[k]:=ad l;generalize x.kK[k]=t at a;rw[xg a,y2 a];have D:=(h.nU.bd k t a).1;cases d:t.done with
    |true=>
     (have A:(vt x.kW k t).done=true:=by rw[wJ (wI x.kW k t)];exact d);unfold nW;rw[A];simp only[cc];split;·omega
     ·split;·split<;>omega
      ·omega
    |false=>
     (simp only[aM,bH];rcases YU (b:=oU x.k6 (k:Int)) (h.nU.ok k t a d (λe=>e)) with p|p);·omega
     ·rw[wJ (wI x.kW k t),d] at p;cases p)
   rw[Hr,Fv,Kz,lL] at j;have o:pK (pL x.kK) (m+1)=tR x:=by unfold tR;rw[lL]
   rw[o] at j;have q:tR x*(tR x-1)<=m*m:=gb z Zo;unfold sI;rw[lL];omega
theorem m5.new{r:Int}(a:0<=r/\r<=63):m5 0 0 (n4 r):=by refine⟨p6.new a,⟨⟨by simp[n4],by simp[n4,sf],by simp[n4,sf],by simp[n4],by simp[n4]⟩,by simp[n4],by simp[n4],by simp[n4],by simp[n4]⟩,by simp[n4],by simp[n4],by simp[n4],by simp[n4],by simp[n4],by simp[n4],by simp[n4],by simp[n4],by simp[n4,r6]⟩
theorem m5.Zg{r:Int}(a:0<=r/\r<=63){l:List lQ}(hl:∀o∈l,nj o=true):m5 l.length 0 {n4 r with kR:=xQ (r6 r) l,Z:=l,k6:=(l.length,[])}:=by refine⟨YI a l,⟨⟨by simp[n4],by simp[n4,sf],by simp[n4,sf],by simp[n4],by simp[n4]⟩,by simp[n4],by simp[n4],by simp[n4],by simp[n4]⟩,by simp[n4],by simp[n4],by simp,by simp,by simp,by simp[n4],by simp[n4],hl,by simp⟩
theorem m5.start{C:Nat}{N:Int}{x j:lD}{k:Int}(h:m5 C N x){c:mo}(p:yd c)(b:rA x c=some (j,k)):m5 C (N+1) j:=by
 unfold rA at b;split at b;·cases b
 ·rename_i lL;cases b;have d:∀(k:Nat) (u:lr),(x.kK++[rz c (x.lp+1)])[k]? =some u->x.kK[k]? =some u\/(k=x.kK.length/\u=rz c (x.lp+1)):=by
   intro k u a;rw[jY] at a;split at a;·exact .inl a
   ·rename_i L;have e:=(ax.1 a).1;simp only[aG,bm] at e;have q:k=x.kK.length:=by omega
    subst q;simp at a;exact .inr ⟨rfl,a.symm⟩
  have qB:∀(k:Nat) (u:lr),x.kK[k]? =some u->(x.kK++[rz c (x.lp+1)])[k]? =some u:=by intro k u a;rw[cG (ax.1 a).1];exact a
  have r:pl x.kW ((x.kK.length:Nat):Int)=none:=by rw[yY];intro l hl;obtain⟨k,u,o,f,_⟩:=h.nU.tQ _ _ hl;have:=(ax.1 f).1;omega
  have g:vt x.kW x.kK.length (rz c (x.lp+1))=rz c (x.lp+1):=rP r _;have s:sf (x.kK++[rz c (x.lp+1)])=sf x.kK:=by
   funext m;unfold sf;split
   ·rw[jY];split;·rfl
    ·rename_i M;have e:x.kK[m.toNat]? =none:=by rw[ei];omega
     rw[e];cases t:[rz c (x.lp+1)][m.toNat-x.kK.length]? with
     |none=>rfl
     |some u=>have:=ar t;rw[aE.1 this];rfl
   ·rfl
  refine⟨h.kR.up Zo,⟨by rw[s];exact h.nU.lk,λl n y=>?_,λk u a A B=>?_,λk u a=>?_,λu a i=>?_⟩,⟨by have:=h.lp;show 0<=x.lp+1;omega,by have:=h.lp;show x.lp+1<=N+1;omega⟩,by simp;omega,h.mD,h.AK,λw D=>?_,λmz k u a=>?_,λu a=>?_,h.Z,h.zR⟩;·obtain⟨k,u,o,f,E⟩:=h.nU.tQ l n y;exact⟨k,u,o,qB k u f,E⟩
  ·rcases d k u a with a|⟨rfl,rfl⟩;·exact h.nU.ok k u a A B
   ·show pi x.kR.kP.ns (vt x.kW x.kK.length (rz c (x.lp+1)));rw[g];exact Ky x.kR.kP.ns (rz c (x.lp+1))
  ·rcases d k u a with a|⟨rfl,rfl⟩;·exact h.nU.bd k u a
   ·show(vt x.kW x.kK.length (rz c (x.lp+1))).lA.length<=3/\_/\(vt x.kW x.kK.length (rz c (x.lp+1))).pos<=16;rw[g];simp[rz]
  ·rcases aQ.1 a with a|a;·exact h.nU.mS u a i
   ·rw[aE.1 a] at i;cases i
  ·obtain⟨F,G,k,u,H,I,J⟩:=h.k6 w D;exact⟨F,G,k,u,H,qB k u I,J⟩
  ·rcases d k u a with a|⟨rfl,rfl⟩;·exact h.first (λv K=>mz v (cy _ K)) k u a
   ·show xf x.kR.kP.ns (vt x.kW x.kK.length (rz c (x.lp+1)))=true;rw[g];unfold xf vR rz;split<;>rfl
  ·rcases aQ.1 a with a|a;·exact h.kK u a
   ·rw[aE.1 a];exact⟨p,by simp[rz,lU.z],by simp[rz,lU.z],by simp[rz]⟩
end Top
section
open Top Proofs.Tryz
def Fy(a k:Int):Value:=.agg #[nI a,nI k]
theorem Zh(v:Value)(cs:List Value)(t:lr)(H:kM)(a:ui H cs t):Rf prog 334 #[.agg #[],v,.agg cs.toArray] H (Fy 3 0):=λW L=>by obtain⟨b,c,ve,rfl,⟨_,_,rfl,_⟩,⟨_,_,rfl,_⟩,⟨_,_,rfl,_⟩⟩:=a;refine enter func334 ?_;refine U ?_;intro d;refine U ?_;intro e;refine U ?_;intro f;refine U ?_;refine kS ?_;exact lj results334 (.agg (cs:=[nI 3,nI 0]) inferInstance rfl lW rfl) lv ⟨rfl,rfl⟩
def CF(l:List la)(t:lr)(ll:List kV):Int×Int:=match t.lA with
 |[]=>(1,0)
 |oL::_::_=>(2,oL)
 |[oL]=>match if 0<=t.pos/\t.pos<ll.length then(oP l oL (ll.getD t.pos.toNat [])).bind (λid=>if nM id then some id else none) else none with
  |some id=>(1,id)
  |none=>if(oQ l ll).2=0/\nM (oQ l ll).1=true/\(oQ l ll).1≠oL then(2,oL) else(3,0)
theorem Zj(H:kM)(v w:Value)(l:List la)(hl:pq H v l)(ll:List kV)(C:Sl 1 ni H w ll)(N:ll.length<=1000000)(t:lr)(cs:List Value)(D:ui H cs t)(O:t.lA.length<=1000000):Rf prog 335 #[.agg #[w],v,.agg cs.toArray] H (Fy (CF l t ll).1 (CF l t ll).2):=λW L=>by
 obtain⟨P,Q,ve,rfl,⟨A,c,rfl,R,y⟩,⟨_,_,rfl,_⟩,⟨_,_,rfl,_⟩⟩:=D;obtain⟨B,d,rfl,k,m⟩:=Zi C;obtain⟨S,T,rfl,_,_⟩:=Zi hl.sl;have a:CF l t ll=match t.lA with
  |[]=>(1,0)
  |oL::_::_=>(2,oL)
  |[oL]=>match if 0<=t.pos/\t.pos<ll.length then(oP l oL (ll.getD t.pos.toNat [])).bind (λid=>if nM id then some id else none) else none with
   |some id=>(1,id)
   |none=>if(oQ l ll).2=0/\nM (oQ l ll).1=true/\(oQ l ll).1≠oL then(2,oL) else(3,0):=rfl
 refine enter func335 ?_;refine U ?_;intro V;refine U ?_;intro X;refine U ?_;intro Y;refine U ?_;cases o:t.lA with
 |nil=>rw[o] at a;dsimp only at a;refine U ?_;refine kS ?_;exact lj results335 (.agg (cs:=[nI 1,nI 0]) inferInstance rfl lW rfl) lv ⟨by rw[a]<;>rfl,rfl⟩
 |cons oL rest=>
  rw[o] at y;rw[show(((oL::rest).length:Int)==0)=false from Zq];have h0:(oL::rest)[0]? =some oL:=rfl;refine U ?_;refine qO (xs:=oL::rest) (i:=0) rfl rfl (fX _) rfl (nS Zn y (le_refl _)) rfl rfl ?_;refine U ?_;cases rest with
  |cons E F=>rw[o] at a;dsimp only at a;rw[show decide ((1:Int)<((oL::E::F).length:Int))=true from Zq];refine U ?_;refine kS ?_;exact lj results335 (.agg (cs:=[nI 2,nI oL]) inferInstance rfl lW rfl) lv ⟨by rw[a]<;>rfl,rfl⟩
  |nil=>
   rw[o] at a;dsimp only at a;refine U ?_;by_cases q:0<=t.pos
   ·rw[aZ q];refine U ?_;by_cases r:t.pos<ll.length
    ·(rw[aZ r];rw[aj ⟨q,r⟩] at a;obtain⟨p,hp⟩:∃p:Nat,t.pos=(p:Int):=⟨t.pos.toNat,by omega⟩;have G:p<ll.length:=by omega);rw[hp] at a;have I:ll[p]? =some ll[p]:=ad G;have J:ll.getD (p:Int).toNat []=ll[p]:=by simp[List.getD,I]
     rw[J] at a;generalize ll[p]=s at*;refine U ?_;rw[hp];refine U ?_;refine mi (G9 H _ l hl oL s) ?_;cases u:oP l oL s with
     |none=>
      rw[u] at a;dsimp only[Option.bind_none] at a;refine U ?_;refine U ?_;refine mi (Ct H _ _ l hl ll ⟨B,d,rfl,k,m⟩ Zo) ?_;have j:=By hl.ok ll;generalize oQ l ll=x at*;obtain⟨id,e⟩:=x;dsimp only at*;refine U ?_;by_cases b:e=0
      ·subst b;refine U ?_;refine md (wW id j W _) ?_;cases f:nM id with
       |false=>rw[ai (by simp[f])] at a;refine U ?_;refine kS ?_;exact lj results335 (.agg (cs:=[nI 3,nI 0]) inferInstance rfl lW rfl) lv ⟨by rw[a]<;>rfl,rfl⟩
       |true=>(refine U ?_;by_cases g:id=oL;·subst g;rw[ai Zs] at a;rw[show(id != id)=false from by simp];refine U ?_;refine kS ?_;exact lj results335 (.agg (cs:=[nI 3,nI 0]) inferInstance rfl lW rfl) lv ⟨by rw[a]<;>rfl,rfl⟩);·rw[show(id != oL)=true from Zq];rw[aj ⟨rfl,f,g⟩] at a;refine U ?_;refine kS ?_;exact lj results335 (.agg (cs:=[nI 2,nI oL]) inferInstance rfl lW rfl) lv ⟨by rw[a]<;>rfl,rfl⟩
      ·rw[show(e==0)=false from Zq];rw[ai (λh=>b h.1)] at a;refine U ?_;refine kS ?_;exact lj results335 (.agg (cs:=[nI 3,nI 0]) inferInstance rfl lW rfl) lv ⟨by rw[a]<;>rfl,rfl⟩
     |some id=>
      (rw[u] at a;have K:od id:=by obtain⟨n,M,rfl,_⟩:=JY u;have:=hl.ok.bd n M;exact⟨by omega,by omega⟩);refine U ?_;refine md (wW id K W _) ?_;cases z:nM id with
      |true=>simp only[eB,z,cc] at a;refine U ?_;refine kS ?_;exact lj results335 (.agg (cs:=[nI 1,nI id]) inferInstance rfl lW rfl) lv ⟨by rw[a]<;>rfl,rfl⟩
      |false=>
       simp only[eB,z,aM,bH] at a;refine U ?_;refine mi (Ct H _ _ l hl ll ⟨B,d,rfl,k,m⟩ Zo) ?_;have j:=By hl.ok ll;generalize oQ l ll=x at*;obtain⟨id,e⟩:=x;dsimp only at*;refine U ?_;by_cases b:e=0
       ·subst b;refine U ?_;refine md (wW id j W _) ?_;cases f:nM id with
        |false=>rw[ai (by simp[f])] at a;refine U ?_;refine kS ?_;exact lj results335 (.agg (cs:=[nI 3,nI 0]) inferInstance rfl lW rfl) lv ⟨by rw[a]<;>rfl,rfl⟩
        |true=>(refine U ?_;by_cases g:id=oL;·subst g;rw[ai Zs] at a;rw[show(id != id)=false from by simp];refine U ?_;refine kS ?_;exact lj results335 (.agg (cs:=[nI 3,nI 0]) inferInstance rfl lW rfl) lv ⟨by rw[a]<;>rfl,rfl⟩);·rw[show(id != oL)=true from Zq];rw[aj ⟨rfl,f,g⟩] at a;refine U ?_;refine kS ?_;exact lj results335 (.agg (cs:=[nI 2,nI oL]) inferInstance rfl lW rfl) lv ⟨by rw[a]<;>rfl,rfl⟩
       ·rw[show(e==0)=false from Zq];rw[ai (λh=>b h.1)] at a;refine U ?_;refine kS ?_;exact lj results335 (.agg (cs:=[nI 3,nI 0]) inferInstance rfl lW rfl) lv ⟨by rw[a]<;>rfl,rfl⟩
    ·rw[bx r];rw[ai (λh=>r h.2)] at a;dsimp only at a;refine U ?_;refine mi (Ct H _ _ l hl ll ⟨B,d,rfl,k,m⟩ Zo) ?_;have j:=By hl.ok ll;generalize oQ l ll=x at*;obtain⟨id,e⟩:=x;dsimp only at*;refine U ?_;by_cases b:e=0
     ·subst b;refine U ?_;refine md (wW id j W _) ?_;cases f:nM id with
      |false=>rw[ai (by simp[f])] at a;refine U ?_;refine kS ?_;exact lj results335 (.agg (cs:=[nI 3,nI 0]) inferInstance rfl lW rfl) lv ⟨by rw[a]<;>rfl,rfl⟩
      |true=>(refine U ?_;by_cases g:id=oL;·subst g;rw[ai Zs] at a;rw[show(id != id)=false from by simp];refine U ?_;refine kS ?_;exact lj results335 (.agg (cs:=[nI 3,nI 0]) inferInstance rfl lW rfl) lv ⟨by rw[a]<;>rfl,rfl⟩);·rw[show(id != oL)=true from Zq];rw[aj ⟨rfl,f,g⟩] at a;refine U ?_;refine kS ?_;exact lj results335 (.agg (cs:=[nI 2,nI oL]) inferInstance rfl lW rfl) lv ⟨by rw[a]<;>rfl,rfl⟩
     ·rw[show(e==0)=false from Zq];rw[ai (λh=>b h.1)] at a;refine U ?_;refine kS ?_;exact lj results335 (.agg (cs:=[nI 3,nI 0]) inferInstance rfl lW rfl) lv ⟨by rw[a]<;>rfl,rfl⟩
   ·rw[bx q];rw[ai (λh=>q h.1)] at a;dsimp only at a;refine U ?_;refine mi (Ct H _ _ l hl ll ⟨B,d,rfl,k,m⟩ Zo) ?_;have j:=By hl.ok ll;generalize oQ l ll=x at*;obtain⟨id,e⟩:=x;dsimp only at*;refine U ?_;by_cases b:e=0
    ·subst b;refine U ?_;refine md (wW id j W _) ?_;cases f:nM id with
     |false=>rw[ai (by simp[f])] at a;refine U ?_;refine kS ?_;exact lj results335 (.agg (cs:=[nI 3,nI 0]) inferInstance rfl lW rfl) lv ⟨by rw[a]<;>rfl,rfl⟩
     |true=>(refine U ?_;by_cases g:id=oL;·subst g;rw[ai Zs] at a;rw[show(id != id)=false from by simp];refine U ?_;refine kS ?_;exact lj results335 (.agg (cs:=[nI 3,nI 0]) inferInstance rfl lW rfl) lv ⟨by rw[a]<;>rfl,rfl⟩);·rw[show(id != oL)=true from Zq];rw[aj ⟨rfl,f,g⟩] at a;refine U ?_;refine kS ?_;exact lj results335 (.agg (cs:=[nI 2,nI oL]) inferInstance rfl lW rfl) lv ⟨by rw[a]<;>rfl,rfl⟩
    ·rw[show(e==0)=false from Zq];rw[ai (λh=>b h.1)] at a;refine U ?_;refine kS ?_;exact lj results335 (.agg (cs:=[nI 3,nI 0]) inferInstance rfl lW rfl) lv ⟨by rw[a]<;>rfl,rfl⟩
end
end Go.Proofs.YtkbifmngmocjnaaGreatDoor
