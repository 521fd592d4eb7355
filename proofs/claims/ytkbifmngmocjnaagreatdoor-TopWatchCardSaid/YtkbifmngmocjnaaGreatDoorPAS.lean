/- Proved here, packed: what the parts Ldop Lmdm Lcor Lcob Lcoc Lcod prove (rules of the walk, contracts of functions, plain laws). Conditions: in each statement. -/
import Derived.Test.YtkbifmngmocjnaaGreatDoorPAR
namespace Go.Proofs.YtkbifmngmocjnaaGreatDoor
set_option maxRecDepth 100000
set_option maxHeartbeats 8000000
set_option linter.all false
section
open Top
theorem P2:∀(s:kV) (i m n:Nat) (r:kV),wc s i m=some (n,r)->r.length+1<=s.length
 |[],_,_,_,_,h=>by cases h
 |d::b,i,m,n,r,h=>by
  unfold wc at h;split at h;·cases h
  ·split at h;·cases h;simp
   ·have:=P2 b _ _ _ _ h;rw[aG];omega
theorem Kk:∀(k:Nat) (s:kV) (l:List Nat) (r:kV),sY k s=some (l,r)->r.length+k<=s.length
 |0,s,l,r,h=>by simp[sY] at h;obtain⟨_,rfl⟩:=h;omega
 |k+1,s,l,r,h=>by
  unfold sY at h;cases a:pY s with
  |none=>rw[a] at h;cases h
  |some x=>
   obtain⟨n,b⟩:=x;rw[a] at h;simp only at h;cases c:sY k b with
   |none=>rw[c] at h;cases h
   |some y=>obtain⟨e,d⟩:=y;rw[c] at h;cases h;have f:=P2 s 0 0 n b a;have g:=Kk k b e d c;show d.length+(k+1)<=s.length;omega
theorem P3{s:kV}{o:lQ}{r:kV}(h:uG s=some (o,r)):nj o=true/\r.length+4<=s.length:=by
 unfold uG at h;split at h
 ·rename_i c r' k n rest d;have i:=Kk _ _ _ _ d;split at h
  ·split at h
   ·rename_i p j e;have l:=Kk _ _ _ _ e;split at h
    ·rename_i t f a;have g:=Av a;split at h;·rename_i b;cases h;exact⟨b,by omega⟩
     ·cases h
    ·cases h
   ·cases h
  ·split at h
   ·rename_i t f a;have g:=Av a;split at h;·rename_i b;cases h;exact⟨b,by omega⟩
    ·cases h
   ·cases h
 ·cases h
theorem Kl:∀(f:Nat) (b:kV) (l:List lQ),sr f b=some l->l.length*4<=b.length/\∀o∈l,nj o=true
 |0,b,l,h=>by
  unfold sr at h;split at h;·cases h;exact⟨by simp,λo a=>(by cases a)⟩
  ·cases h
 |f+1,b,l,h=>by
  unfold sr at h;split at h;·cases h;exact⟨by simp,λo a=>(by cases a)⟩
  ·cases c:uG b with
   |none=>rw[c] at h;cases h
   |some y=>
    obtain⟨o,r⟩:=y;rw[c] at h;simp only at h;cases d:sr f r with
    |none=>rw[d] at h;cases h
    |some g=>
     (rw[d] at h;cases h;obtain⟨i,k⟩:=P3 c;obtain⟨m,j⟩:=Kl f r g d;refine⟨by rw[aG];omega,λx e=>?_⟩;rcases aJ.1 e with rfl|e);·exact i
     ·exact j x e
theorem P4:∀(l:List kV) (m:List lQ),sC l=some m->m.length=l.length/\∀o∈m,nj o=true
 |[],m,h=>by cases h;exact⟨rfl,λo c=>(by cases c)⟩
 |r::l,m,h=>by
  have d:sC (r::l)=match uG r with
   |some (o,[])=>(sC l).map (o::·)
   |_=>none:=rfl
  rw[d] at h;split at h
  ·rename_i o e;cases a:sC l with
   |none=>rw[a] at h;cases h
   |some f=>
    (rw[a] at h;cases h;obtain⟨g,k⟩:=P3 e;obtain⟨i,j⟩:=P4 l f a;refine⟨by rw[aG,aG,i],λx b=>?_⟩;rcases aJ.1 b with rfl|b);·exact g
    ·exact j x b
  ·cases h
theorem Yu{s p:kV}{a:Int}{n:Nat}(h:xR s a=some (p,n)):p.length<=s.length:=by
 rw[JA] at h;split at h;·cases h
 ·split at h;·cases h
  ·split at h;·cases h
   ·split at h;·cases h
    ·split at h;·cases h
     ·split at h;·cases h
      ·rename_i f b;split at h
       ·rename_i c;cases h;obtain⟨g,i,j,k,l⟩:=DB b;have hl:=(dY.1 c).length_le;have m:p.length<=(uL a.toNat p).length:=by have e:uL a.toNat p=pJ [] (zk (pJ (rY a.toNat) p)):=rfl;have d:∀x:kV,zk x=x++zj (C6 x):=λ_=>rfl;rw[e,pJ,d,pJ];simp only[ak];omega
        (have:(uL a.toNat p).length<=16*rl (uL a.toNat p).length:=by unfold rl;omega);omega
       ·cases h
theorem Yv{s t:kV}{seq b:Int}(h:Ca s seq=some (b,t)):t.length<=s.length:=by
 rw[JF] at h;split at h;·cases h
 ·rename_i a;have e:=Yu a;split at h;·cases h
  ·rename_i c;have f:=Fg c;split at h;·cases h
   ·split at h;·cases h
    ·rename_i d;have g:=(Jz d).1;split at h;·cases h;omega
     ·cases h
theorem P5(s:kV):∀(f:Nat) (seq:Int) (y:Int×Int×kV),xr s f seq=some y->y.2.2.length<=s.length
 |0,_,_,h=>by cases h
 |f+1,seq,y,h=>by
  rw[GQ] at h;split at h;·rename_i b t a;cases h;exact Yv a
  ·exact P5 s f (seq+2) y h
theorem Yw{d:Dk}(a:qZ d)(j:Nat):(JH d j).length<=d.size/4*16:=by
 unfold JH;rw[Dx];split;·rename_i h;rw[aN,DD d a _ _ h.2];exact aA _
 ·exact aR _
theorem P6{d:Dk}(b:qZ d):∀j,(sd d j).2.2.length<=d.size/4*16
 |0=>aR _
 |j+1=>by
  have c:=P6 b j;have e:sd d (j+1)=AB (sd d j) (wE d j):=rfl;cases a:wE d j with
  |none=>rw[e,a];exact c
  |some y=>
   have f:=cR (P5 _ _ _ _ a) (Yw b j);rw[e,a,show AB (sd d j) (some y)=if y.1>(sd d j).1 then y else sd d j from rfl];split;·exact f
   ·exact c
theorem P7:∀(f:Nat) (s:kV) (a:Int),∀r∈(wr f s a).1,r.length<=40000
 |0,_,_,r,h=>by cases h
 |f+1,s,a,r,h=>by
  rw[JB] at h;cases b:xR s a with
  |none=>rw[b] at h;cases h
  |some y=>
   obtain⟨p,n⟩:=y;rw[b] at h;rcases aJ.1 h with rfl|h;·exact(GO b).2.2.1
   ·exact P7 f _ _ r h
theorem P8{d:Dk}(e:qZ d)(n:d.size<=255){w:Wl}{c:kV}{b:List kV}(h:wu d=some (w,c,b)):c.length<=1008/\b.length<=255/\(∀r∈b,r.length<=40000)/\∀Z oB,qI c=some Z->sC b=some oB->(Z++oB).length<=600/\∀o∈Z++oB,nj o=true:=by
 rw[JO] at h;split at h;·cases h
 ·split at h;·cases h
  ·cases h;have f:=P6 e 2;rw[<-GS] at f;have p:((rC d (nv d.size) (d.size-nv d.size)).getD []).length<=(d.size-nv d.size)*16:=by(rw[Dx];split;·rename_i g;rw[aN,DD d e _ _ g.2];exact aA _);·exact aR _
   have q:(vy d).1.length<=(vy d).2/\(vy d).2*16<=((rC d (nv d.size) (d.size-nv d.size)).getD []).length:=GY _ _ _;have i:∀r∈(vy d).1,r.length<=40000:=P7 _ _ _;refine⟨by omega,by omega,i,λZ oB j k=>?_⟩;obtain⟨s,l⟩:=Kl _ _ _ j;obtain⟨t,m⟩:=P4 _ _ k;refine⟨by rw[ak];omega,λo a=>?_⟩;rcases aQ.1 a with a|a
   ·exact l o a
   ·exact m o a
end
namespace Top
open YtkbifmngmocjnaaGreatDoor
theorem Yx(s:Int)(x:mN):s<=tj s x/\(0<=s/\s<=1048576->tj s x<=1048576)/\(ow x=true->x.c<=tj s x):=by
 unfold tj;split;·rename_i h;have:=Fs.1 h;exact⟨by omega,by omega,by omega⟩
 ·rename_i h;exact⟨fJ _,λh=>h.2,λa=>absurd a h⟩
theorem Km:∀(l:List mN) (s:Int),s<=rb s l/\(0<=s/\s<=1048576->rb s l<=1048576)/\∀x∈l,ow x=true->x.c<=rb s l
 |[],s=>⟨fJ _,λh=>h.2,by simp⟩
 |x::l,s=>by
  obtain⟨i,d,e⟩:=Yx s x;obtain⟨j,f,g⟩:=Km l (tj s x);show s<=rb (tj s x) l/\(0<=s/\s<=1048576->rb (tj s x) l<=1048576)/\∀y∈x::l,ow y=true->y.c<=rb (tj s x) l;refine⟨by omega,λh=>f ⟨by omega,d h⟩,λy a b=>?_⟩;rcases aJ.1 a with rfl|a;·have:=e b;omega
  ·exact g y a b
theorem Yy{m:mQ}{o:lQ}(h:(qU m o).2=0):(oM m.kP o).2=0/\(qU m o).1={m with kP:=(oM m.kP o).1}:=by
 unfold qU at*;generalize oM m.kP o=y at*;obtain⟨g,e⟩:=y;dsimp only at*;split at h;·rename_i a;exact absurd h a
 ·rename_i a;rw[ai a];exact⟨by omega,rfl⟩
theorem P9:∀(f:List lQ) (m:mQ),(uI m f).2=0->(uI m f).1={m with kP:=uH m.kP f}/\
 ((f.map (·.tm)).Nodup->(∀o∈f,vH m.kP o.tm=false)->(uH m.kP f).es.length=m.kP.es.length+f.length/\∀o∈f,nj o=true)
 |[],m,_=>⟨rfl,λ_ _=>⟨rfl,by simp⟩⟩
 |o::f,m,h=>by
  rw[uI] at h⊢;cases j:qU m o with
  |mk m1 e=>
   rw[j] at h;simp only at h⊢;by_cases k:e=0
   ·(subst k;rw[ai Zd] at h⊢;obtain⟨g,i⟩:=Yy (m:=m) (o:=o) (by rw[j]);rw[j] at i;simp only at i;obtain⟨v,w⟩:=P9 f m1 h;rw[v,i];refine⟨rfl,λl n=>?_⟩;rw[bk,cU] at l;rcases Ke m.kP o with⟨c,_⟩|⟨_,r⟩|c|⟨c,_,_,_,a,b,x,y⟩);·rw[c] at g;exact absurd (show(50:Int)=0 from g) Zd
    ·rw[n o (ay ..)] at r;cases r
    ·rw[c] at g;exact absurd (show(193:Int)=0 from g) Zd
    ·have lL:(oM m.kP o).1.es.length=m.kP.es.length+1:=by have:=congrArg List.length x;have:=congrArg List.length y;simp at*;omega
     (have s:m1.kP=(oM m.kP o).1:=by rw[i]);obtain⟨t,z⟩:=w l.2 (λp hp=>by
      rw[s];cases A:vH (oM m.kP o).1 p.tm with
      |false=>rfl
      |true=>(obtain⟨q,d,u⟩:=Kf.1 A;rcases PY m.kP o q d with d|d;·have:=Kf.2 ⟨q,d,u⟩;rw[n p (aI _ hp)] at this;cases this);·subst d;exact absurd (aU.2 ⟨p,hp,u.symm⟩) l.1)
     (rw[s] at t;refine⟨?_,λp hp=>?_⟩;·show(uH (oM m.kP o).1 f).es.length=_;rw[t,lL,aG];omega);·(rcases aJ.1 hp with rfl|hp;·exact c);·exact z p hp
   ·rw[aj k] at h;exact absurd h k
theorem Ko(g:Lg):∀(l a:List lQ),(a.map (·.tm)).Nodup->(∀o∈a,vH g o.tm=false)->((l.foldl (rx g) a).map (·.tm)).Nodup/\∀o∈l.foldl (rx g) a,vH g o.tm=false
 |[],_,b,c=>⟨b,c⟩
 |o::l,a,b,c=>by
  rw[bU];unfold rx;split
  ·rename_i h;simp only[aF,cJ] at h;refine Ko g l _ ?_ ?_;·rw[bA,cC];refine⟨b,by simp,?_⟩;intro x i y d e;subst e;simp only[bk,cu,aE] at d;obtain⟨p,hp,j⟩:=aU.1 i;have f:=fQ.1 h.2 p hp;rw[j,d] at f;simp at f
   ·intro p hp;rcases aQ.1 hp with hp|hp
    ·exact c p hp
    ·rw[aE.1 hp];exact h.1
  ·exact Ko g l a b c
structure BB(N:Int)(m:mQ)(r:sw×Int):Prop where
 i:p6 (N+1) r.1.1
 len:r.1.1.kP.es.length=m.kP.es.length+r.1.2.2.length
 ok:∀o∈r.1.2.2,nj o=true
 mC:r.1.1.mC=m.mC
 ll:r.1.2.1.ll.length<=10000
 l9:r.1.2.1.l9.length<=100
theorem BB.err{N:Int}{m:mQ}(h:p6 N m)(e:Int):BB N m (nJ m e):=⟨h.up Zo,rfl,by simp[nJ],rfl,by simp[nJ,lU.z],by simp[nJ,lU.z]⟩
theorem BB.same{N:Int}{m:mQ}(h:p6 N m)(a:lU)(e:Int)(b:a.ll.length<=10000)(c:a.l9.length<=100):BB N m ((m,a,[]),e):=⟨h.up Zo,rfl,by simp,rfl,b,c⟩
theorem BB.put{N:Int}{m:mQ}(h:p6 N m)(o:lQ):BB N m (tt (rh m o)):=by
 rcases Hl h o with⟨_,e⟩|⟨b,c,a,lL,e⟩;·unfold tt;rw[e];exact⟨h.up Zo,rfl,by simp,rfl,by simp[lU.z],by simp[lU.z]⟩
 ·unfold tt;rw[e];refine⟨(h.put a (by rw[c]) lL).up Zo,?_,?_,rfl,by simp[lU.z],by simp[lU.z]⟩;·show(qS m.kP b).es.length=_;rw[wB];simp
  ·intro p hp;rw[aE.1 hp];exact a
theorem Yz(l:List la)(d:Int):(Ae l d).length<=l.length:=by
 unfold Ae;split;·rw[(x8 _).length_eq,bO];exact JX l d
 ·simp
theorem Bz{N:Int}{m:mQ}(h:p6 N m){p:kV}{id:Int}(b:o5 m.kP.ns p=(id,0)):od id:=by
 rcases Ki b with rfl|⟨d,s,_,c⟩;·exact⟨by decide,by decide⟩
 ·obtain⟨n,a,rfl,_⟩:=Bx c;have e:=(h.w.Kd h.ru).id n a;have f:=Cx (h.w.ns.2 n a);have:=h.seen;exact⟨by omega,by omega⟩
theorem YA{N:Int}{m:mQ}(h:p6 N m){k:Int}{l:List la}(a:yJ m k=some l):vP l:=by
 unfold yJ at a;split at a;·cases a;exact h.w.yf h.len
 ·cases hf:m.l3.find? (λs=>s.1==k) with
  |none=>rw[hf] at a;cases a
  |some s=>rw[hf] at a;simp only[aW,cD] at a;subst a;exact(h.pu s (bF hf)).1
theorem YB{N:Int}{m:mQ}(h:p6 N m)(c:mo):BB N m (Ag m c):=by
 unfold Ag;cases A:qI c.data with
 |none=>exact .err h _
 |some l=>
  simp only;obtain⟨k,n⟩:=Ko m.kP l [] Zs Zs;have p:∀o∈l.foldl (rx m.kP) [],o∈l:=PV m.kP l [] Zs (λ_ h=>h);generalize hf:l.foldl (rx m.kP) []=f at*;split;·exact .err h _
  ·rename_i lL;cases i:uI m f with
   |mk m1 e=>
    simp only;by_cases a:e=0
    ·(subst a;rw[ai Zd];obtain⟨b,q⟩:=P9 f m (by rw[i]);obtain⟨r,t⟩:=q k n;rw[i] at b;simp only at b;subst b;obtain⟨B,u,v⟩:=Km (l.map (·.tm)) m.seen;have j:p5 (uH m.kP f):=h.w.all f;refine⟨⟨j,λe a=>?_,Kh f m.kP h.len,⟨by have:=h.seen;show 0<=rb _ _;omega,u h.seen⟩,h.mC,h.l3,λs d=>⟨(h.pu s d).1,(h.pu s d).2.1,by have:=(h.pu s d).2.2;omega⟩,h.lN,h.xd,by have:=h.next;show 1<=m.next/\m.next<=N+1;omega⟩,r,t,rfl,by simp[lU.z],by simp[lU.z]⟩;show e.op.tm.c<=rb m.seen (l.map (·.tm));rcases Kg f m.kP e.op (aU.2 ⟨e,a,rfl⟩) with g|g);·obtain⟨e',x,y⟩:=aU.1 g;have:=h.ru e' x;rw[y] at this;omega
     ·exact v e.op.tm (aU.2 ⟨e.op,p _ g,rfl⟩) (CB (j.ok e a)).1
    ·rw[aj a];exact .err h _
theorem Kp{N:Int}{m:mQ}(h:p6 N m)(c:mo):BB N m (pS m c):=by
 have j:=h.l3;have d:=h.lN;have r:=h.next;unfold pS;split
 ·unfold Af;split;·exact .err h _
  ·split;split;·exact .err h _
   ·split;·exact .err h _
    ·split;split;·exact .err h _
     ·exact .put h _
 ·split
  ·unfold Be;split;split;·exact .err h _
   ·split;·exact .err h _
    ·exact .put h _
  ·split
   ·unfold BW;split;·exact .err h _
    ·split;split;·exact .err h _
     ·split;·exact .err h _
      ·exact .same h _ _ (by simp[lU.z]) (by simp[lU.z])
   ·split
    ·unfold Bf;split;·exact .err h _
     ·split;split;·exact .err h _
      ·split;split;·exact .err h _
       ·split;·exact .err h _
        ·split;·exact .err h _
         ·exact .put h _
    ·split
     ·unfold Bg;split;·exact .err h _
      ·split;split;·exact .err h _
       ·split;·exact .err h _
        ·split;·exact .err h _
         ·exact .put h _
     ·split
      ·unfold BX;split;·exact .err h _
       ·rename_i l hl;split;rename_i id e f;split;·exact .err h _
        ·split;·exact .same h _ _ (by have:=Yz l id;have:=(YA h hl).len;show(Ae l id).length<=10000;omega) (by simp[lU.z])
         ·exact .err h _
      ·split
       ·unfold BY;split;·exact .err h _
        ·refine⟨⟨h.w,h.ru,h.len,h.seen,h.mC,?_,?_,h.lN,h.xd,?_⟩,rfl,by simp,rfl,by simp[lU.z],by simp[lU.z]⟩;·simp only[ak,aG,bm];omega
         ·intro s a;rcases aQ.1 a with a|a
          ·have:=h.pu s a;exact⟨this.1,this.2.1,by omega⟩
          ·rw[aE.1 a];exact⟨h.w.yf h.len,by show 0<=m.next;omega,by show m.next<=N+1;omega⟩
         ·show 1<=m.next+1/\m.next+1<=N+1;omega
       ·split
        ·unfold C9;split;·exact .err h _
         ·(refine⟨⟨h.w,h.ru,h.len,h.seen,h.mC,?_,?_,?_,?_,by show 1<=m.next/\m.next<=N+1;omega⟩,rfl,by simp,rfl,by simp[lU.z],by simp[lU.z]⟩;·exact cR (bG ..) j);·intro s a;have:=h.pu s (bp.1 a|>.1);exact⟨this.1,this.2.1,by omega⟩
          ·exact cR (bG ..) d
          ·intro w b;exact h.xd w (bp.1 b|>.1)
        ·split
         ·unfold BZ;split;rename_i id e f;split;·exact .err h _
          ·rename_i g;have g:e=0:=by omega
           subst g;split;·exact .err h _
           ·split;·exact .err h _
            ·(refine⟨⟨h.w,h.ru,h.len,h.seen,h.mC,h.l3,?_,?_,?_,?_⟩,rfl,by simp,rfl,by simp[lU.z],by simp[lU.z]⟩;·intro s a;have:=h.pu s a;exact⟨this.1,this.2.1,by omega⟩);·simp only[ak,aG,bm];omega
             ·intro w b;rcases aQ.1 b with b|b
              ·exact h.xd w b
              ·rw[aE.1 b];exact⟨Bz h f,by simp,by simp⟩
             ·show 1<=m.next+1/\m.next+1<=N+1;omega
         ·split
          ·unfold Bh;split;·exact .err h _
           ·rename_i i t;refine⟨⟨h.w,h.ru,h.len,h.seen,h.mC,h.l3,?_,?_,?_,by show 1<=m.next/\m.next<=N+1;omega⟩,rfl,by simp,rfl,by simp[lU.z],?_⟩;·intro s a;have:=h.pu s a;exact⟨this.1,this.2.1,by omega⟩
            ·simp only[kw];exact d
            ·intro w b;obtain⟨k,n,rfl⟩:=cr b;rw[kd];have o:k<m.lN.length:=by simpa using n
             have:=h.xd _ (bv o);split;·exact⟨this.1,by simp,by simp⟩
             ·exact this
            ·show(((m.lN[i]?).map λw=>w.q.1).getD []).length<=100;cases p:m.lN[i]? with
             |none=>simp
             |some w=>have:=(h.xd w (ar p)).2.1;simp only[aW,aN];omega
          ·split;·exact .same h _ _ (by simp[lU.z]) (by simp[lU.z])
           ·exact YB h c
theorem YC{q:xp}{l:List nk}(b:q.1.length<=9)(a:q.2=false->q.1.length<=8):(rJ q l).1.length<=9/\((rJ q l).2=false->(rJ q l).1.length<=8):=by
 unfold rJ;split;·exact⟨b,a⟩
 ·rename_i c;have d:=a (by simpa using c);split;·refine⟨?_,λh=>by cases h⟩;simp only[ak,aC,aG,bm];omega
  ·rename_i hl;simp only[ak];exact⟨by omega,λ_=>by omega⟩
theorem p6.YD{N:Int}{m:mQ}(h:p6 N m)(my:List la):p6 N (Ah my m):=by
 refine⟨h.w,h.ru,h.len,h.seen,h.mC,h.l3,h.pu,?_,?_,h.next⟩;·show(m.lN.map _).length<=8;rw[bO];exact h.lN
 ·intro w a;obtain⟨k,b,rfl⟩:=aU.1 a;have:=h.xd k b;exact⟨this.1,YC this.2.1 this.2.2⟩
structure YE(N:Int)(m:mQ)(c:mo)(r:sw):Prop where
 i:p6 (N+1) r.1
 len:r.1.kP.es.length=m.kP.es.length+r.2.2.length
 ok:∀o∈r.2.2,nj o=true
 mC:r.1.mC=m.mC
 ll:r.2.1.ll.length<=10000
 l9:r.2.1.l9.length<=100
 pb:BA c r.2.1.err m.kP.ns r.1.kP.ns
theorem YF{c:mo}(h:uZ c=true):1<=c.kind/\c.kind<=13:=by
 unfold uZ at h;cases a:BV c.kind with
 |none=>rw[a] at h;cases h
 |some x=>
  unfold BV at a;split at a;·omega
  ·split at a;·omega
   ·split at a;·omega
    ·split at a;·omega
     ·split at a;·omega
      ·split at a;·omega
       ·split at a;·omega
        ·cases a
theorem YG(m:mQ)(c:mo):(Ag m c).1.2.1.err=0:=by
 unfold Ag;split;·rfl
 ·simp only;split;·rfl
  ·split<;>rfl
theorem YH{N:Int}{m:mQ}(h:p6 N m){c:mo}(a:uZ c=true):BA c (pS m c).1.2.1.err m.kP.ns (pS m c).1.1.kP.ns:=by
 have b:=YF a;unfold pS;split;·exact Yp h c _
 ·split;·exact Yr h c _
  ·split
   ·refine .same ?_;unfold BW;split;·rfl
    ·split;split;·rfl
     ·split<;>rfl
   ·split;·exact Ys h c _ ‹_›
    ·split;·exact Yt h c _ ‹_›
     ·split
      ·refine .same ?_;unfold BX;split;·rfl
       ·split;split;·rfl
        ·split<;>rfl
      ·split;·refine .same ?_;unfold BY;split<;>rfl
       ·split;·refine .same ?_;unfold C9;split<;>rfl
        ·split
         ·refine .same ?_;unfold BZ;split;split;·rfl
          ·split;·rfl
           ·split<;>rfl
         ·split;·refine .same ?_;unfold Bh;split<;>rfl
          ·split;·exact .same rfl
           ·exact .P0 Zo (YG m c)
theorem Hm{N:Int}{m:mQ}(h:p6 N m)(c:mo):YE N m c (py m c):=by
 unfold py;split;·exact⟨h.up Zo,rfl,by simp,rfl,by simp[lU.z],by simp[lU.z],.same rfl⟩
 ·rename_i d;have d:uZ c=true:=by simpa using d
  have b:=Kp h c;have f:=YH h d;generalize pS m c=y at*;obtain⟨⟨g,a,Z⟩,e⟩:=y;simp only at*;split;·exact⟨h.up Zo,rfl,by simp,rfl,by simp[lU.z],by simp[lU.z],.same rfl⟩
  ·split;·exact⟨b.i,b.len,b.ok,b.mC,b.ll,b.l9,f⟩
   ·exact⟨b.i.YD _,b.len,b.ok,b.mC,b.ll,b.l9,f⟩
theorem YI{r:Int}(g:0<=r/\r<=63)(l:List lQ):p6 1 (xQ (r6 r) l):=by
 have hf:∀(l:List lQ) (s:Int),(l.foldl (λs o=>tj s o.tm) s)=rb s (l.map (·.tm)):=by
  intro l;induction l with
  |nil=>intro s;rfl
  |cons o l h=>intro s;rw[bU,h];rfl
 obtain⟨i,j,k⟩:=Km ((l.filter nj).map (·.tm)) 0;have b:p5 (uH ⟨[],[]⟩ l):=p5.nil.all l;refine⟨b,λe d=>?_,Kh l _ (aR _),?_,g,by simp[xQ,r6],by simp[xQ,r6],by simp[xQ,r6],by simp[xQ,r6],by simp[xQ,r6]⟩
 ·show e.op.tm.c<=(l.filter nj).foldl (λs o=>tj s o.tm) 0;rw[hf];have f:=b.ok e d;rcases Kg l _ e.op (aU.2 ⟨e,d,rfl⟩) with a|a
  ·exact absurd a (by simp[r6])
  ·exact k _ (aU.2 ⟨e.op,bp.2 ⟨a,f⟩,rfl⟩) (CB f).1
 ·show 0<=(l.filter nj).foldl (λs o=>tj s o.tm) 0/\(l.filter nj).foldl (λs o=>tj s o.tm) 0<=1048576;rw[hf];exact⟨i,j ⟨by omega,by omega⟩⟩
end Top
namespace Top
open YtkbifmngmocjnaaGreatDoor
structure xe(t:nt)(h:Int->List Int):Prop where
 one:(t.1.map (·.1)).Nodup
 qB:∀l n,(l,n)∈t.1↔l∈h n
 nd:∀n,(h n).Nodup
 yi:(t.2.map (·.2)).Nodup
 se:∀l n,(l,n)∈t.2->∃m,m≠n/\(l,m)∈t.1
def tD(h:Int->List Int)(n:Int)(v:List Int):Int->List Int:=λk=>if k=n then v else h k
theorem wH(h:Int->List Int)(n:Int)(v:List Int):tD h n v n=v:=aj rfl
theorem vz(h:Int->List Int){n k:Int}(v:List Int)(e:k≠n):tD h n v k=h k:=ai e
theorem AG{l:List (Int×Int)}(h:(l.map (·.1)).Nodup){a b c:Int}(f:(a,b)∈l)(g:(a,c)∈l):b=c:=by
 induction l with
 |nil=>simp at f
 |cons x l i=>
  rw[bk,cU] at h;rcases aJ.1 f with d|d<;>rcases aJ.1 g with e|e
  ·rw[<-e] at d;exact(Prod.mk.inj d).2
  ·exact absurd (aU.2 ⟨_,e,by rw[<-d]⟩) h.1
  ·exact absurd (aU.2 ⟨_,d,by rw[<-e]⟩) h.1
  ·exact i h.2 d e
theorem Ea{l:List (Int×Int)}(h:(l.map (·.2)).Nodup){a b c:Int}(f:(a,c)∈l)(g:(b,c)∈l):a=b:=by
 induction l with
 |nil=>simp at f
 |cons x l i=>
  rw[bk,cU] at h;rcases aJ.1 f with d|d<;>rcases aJ.1 g with e|e
  ·rw[<-e] at d;exact(Prod.mk.inj d).1
  ·exact absurd (aU.2 ⟨_,e,by rw[<-d]⟩) h.1
  ·exact absurd (aU.2 ⟨_,d,by rw[<-e]⟩) h.1
  ·exact i h.2 d e
theorem YJ{t:nt}(h:(t.2.map (·.2)).Nodup){n l:Int}:pl t n=some l↔(l,n)∈t.2:=by
 unfold pl;constructor
 ·intro e;obtain⟨x,d,rfl⟩:=cp.1 e;have a:=bF d;have b:x.2=n:=by simpa using cP d
  rw[<-b];exact a
 ·intro e;cases hf:t.2.find? (λx=>x.2==n) with
  |none=>have:=bK.1 hf _ e;simp at this
  |some x=>
   have a:=bF hf;have b:x.2=n:=by simpa using cP hf
   have:x.1=l:=Ea h (c:=n) (by rw[<-b];exact a) e;simp[this]
theorem yY{t:nt}{n:Int}:pl t n=none↔∀l,(l,n)∉t.2:=by
 unfold pl;rw[fL,bK];constructor;·intro h l c;have:=h _ c;simp at this
 ·rintro h ⟨a,b⟩ c;simp only[ck];rintro rfl;exact h _ c
theorem YK{t:nt}(h:(t.1.map (·.1)).Nodup){l n:Int}:Ai t l=some n↔(l,n)∈t.1:=by
 unfold Ai;constructor
 ·intro e;obtain⟨x,d,rfl⟩:=cp.1 e;have b:=bF d;have c:x.1=l:=by simpa using cP d
  rw[<-c];exact b
 ·intro e;cases hf:t.1.find? (λx=>x.1==l) with
  |none=>have:=bK.1 hf _ e;simp at this
  |some x=>
   have b:=bF hf;have c:x.1=l:=by simpa using cP hf
   have:x.2=n:=AG h (a:=l) (by rw[<-c];exact b) e;simp[this]
theorem YL{t:nt}{l:Int}:Ai t l=none↔∀n,(l,n)∉t.1:=by
 unfold Ai;rw[fL,bK];constructor;·intro h n c;have:=h _ c;simp at this
 ·rintro h ⟨a,b⟩ c;simp only[ck];rintro rfl;exact h _ c
theorem YM{t:nt}{h:Int->List Int}(a:xe t h){n l:Int}(hl:l∉h n):(qV t n l=((t.1++[(l,n)],t.2),true)/\∀m,(l,m)∉t.1)\/(qV t n l=((t.1,if t.2.any (λw=>w==(l,n)) then t.2 else t.2++[(l,n)]),false)/\∃m,m≠n/\(l,m)∈t.1):=by
 unfold qV;cases b:Ai t l with
 |none=>exact .inl ⟨rfl,YL.1 b⟩
 |some m=>
  have c:=(YK a.one).1 b;have d:m≠n:=by rintro rfl;exact hl ((a.qB _ _).1 c)
  simp only[ai d];exact .inr ⟨trivial,m,d,c⟩
theorem xe.take{t:nt}{h:Int->List Int}(d:xe t h){n l:Int}(hl:l∉h n)(i:∀k,(k,n)∉t.2):((qV t n l).2=true/\xe (qV t n l).1 (tD h n (h n++[l]))/\(qV t n l).1.2=t.2)\/((qV t n l).2=false/\xe (qV t n l).1 h/\(qV t n l).1.2=t.2++[(l,n)]):=by
 rcases YM d hl with⟨e,j⟩|⟨e,m,o,q⟩
 ·rw[e];refine .inl ⟨rfl,⟨?_,?_,?_,d.yi,?_⟩,rfl⟩;·simp only[bA,bk,cu];rw[cC];refine⟨d.one,by simp,?_⟩;intro a g b f;rw[aE] at f;obtain⟨p,hp,rfl⟩:=aU.1 g;rintro rfl;exact j p.2 (by rw[<-f];exact hp)
  ·intro a k;by_cases c:k=n;·subst c;rw[wH,aQ,aQ,d.qB];simp
   ·rw[vz _ _ c,aQ,<-d.qB];simp only[aE,bE,c,and_false,eG]
  ·intro k;by_cases c:k=n;·subst c;rw[wH,cC];refine⟨d.nd _,by simp,?_⟩;intro a g b f;rw[aE.1 f];rintro rfl;exact hl g
   ·rw[vz _ _ c];exact d.nd _
  ·intro a k c;obtain⟨m,r,s⟩:=d.se a k c;exact⟨m,r,cy _ s⟩
 ·have u:t.2.any (λw=>w==(l,n))=false:=by rw[fQ];intro p hp;simp only[ck];rintro rfl;exact i _ hp
  rw[e,u];refine .inr ⟨rfl,⟨d.one,d.qB,d.nd,?_,?_⟩,rfl⟩
  ·show((t.2++[(l,n)]).map (·.2)).Nodup;rw[bA,cC];refine⟨d.yi,by simp,?_⟩;intro a g b f;obtain⟨p,hp,rfl⟩:=aU.1 g;have v:b=n:=by simpa using f
   subst v;intro e';exact i p.1 (by rw[<-e'];exact hp)
  ·intro a k c;rcases aQ.1 c with c|c
   ·exact d.se a k c
   ·rw[aE] at c;cases c;exact⟨m,o,q⟩
theorem YN{l:List (Int×Int)}{p:Int×Int}(hf:l.find? (λw=>w.1==p.1)=some p):∃a b,l=a++p::b/\l.eraseP (λx=>x.1==p.1)=a++b/\∀q∈a,q.1≠p.1:=by
 induction l with
 |nil=>simp at hf
 |cons x l e=>
  rw[dA] at hf;by_cases c:x.1=p.1;·rw[show(x.1==p.1)=true from by simp[c]] at hf;simp only[cD] at hf;subst hf;exact⟨[],l,rfl,by simp,by simp⟩
  ·rw[show(x.1==p.1)=false from by simp[c]] at hf;obtain⟨a,b,f,g,h⟩:=e hf;refine⟨x::a,b,by rw[f];rfl,?_,?_⟩;·rw[List.eraseP_cons,show(x.1==p.1)=false from by simp[c]];simp only[cond_false];rw[g];rfl
   ·intro q d;rcases aJ.1 d with rfl|d
    ·exact c
    ·exact h q d
structure Kq(t:nt)(h:Int->List Int)(n l:Int)(r:nt×Option Int):Prop where
 none:r.2=none->xe r.1 (tD h n ((h n).filter λk=>!(k==l)))/\r.1.2=t.2
 some:∀m,r.2=some m->m≠n/\(l,m)∈t.2/\l∉h m/\xe r.1 (tD (tD h n ((h n).filter λk=>!(k==l))) m (h m++[l]))/\∀p,p∈r.1.2↔p∈t.2/\p≠(l,m)
theorem Kr{α β:Type}{f:α->β}{l:List α}(h:(l.map f).Nodup):l.Nodup:=List.Pairwise.of_map f (λ_ _ h e=>h (congrArg f e)) h
theorem Hn{l:List (Int×Int)}(h:(l.map (·.1)).Nodup){a n:Int}(p:Int×Int)(d:(a,n)∈l):p∈l.erase (a,n)↔p∈l/\p.1≠a:=by
 have f:l.Nodup:=Kr h;rw[f.mem_erase_iff];constructor;·rintro⟨c,b⟩;refine⟨b,λe=>c ?_⟩;obtain⟨x,y⟩:=p;dsimp only at e;subst e;rw[AG h b d]
 ·rintro⟨c,b⟩;exact⟨λe=>b (by rw[e]),c⟩
theorem xe.free{t:nt}{h:Int->List Int}(c:xe t h){n l:Int}(hl:l∈h n):Kq t h n l (pw t n l):=by
 have f:=(c.qB l n).2 hl;have o:∀a k,(a,k)∈t.1.erase (l,n)↔a∈tD h n ((h n).filter λk=>!(k==l)) k:=by
  intro a k;rw[Hn c.one _ f];dsimp only;by_cases d:k=n;·subst d;rw[wH,bp,c.qB];simp
  ·rw[vz _ _ d,c.qB];constructor;·exact λh=>h.1
   ·intro g;refine⟨g,?_⟩;rintro rfl;exact d (AG c.one ((c.qB _ _).2 g) f)
 have v:∀k,(tD h n ((h n).filter λk=>!(k==l)) k).Nodup:=by
  intro k;by_cases d:k=n;·subst d;rw[wH];exact(c.nd _).filter _
  ·rw[vz _ _ d];exact c.nd _
 have y:((t.1.erase (l,n)).map (·.1)).Nodup:=c.one.sublist ((List.erase_sublist).map _);have G:∀k,(l,k)∉t.1.erase (l,n):=λk d=>((Hn c.one _ f).1 d).2 rfl;unfold pw;rw[aj f];cases hf:t.2.find? (λw=>w.1==l) with
 |none=>refine⟨λ_=>⟨⟨y,o,v,c.yi,?_⟩,rfl⟩,λm e=>by cases e⟩;intro a k d;obtain⟨m,g,j⟩:=c.se a k d;refine⟨m,g,(Hn c.one _ f).2 ⟨j,?_⟩⟩;rintro rfl;have:=bK.1 hf _ d;simp at this
 |some w=>
  obtain⟨l',m⟩:=w;have H:l'=l:=by simpa using cP hf
  subst H;have z:=bF hf;have q:m≠n:=by rintro rfl;obtain⟨k,g,j⟩:=c.se _ _ z;exact g (AG c.one j f)
  have A:l'∉h m:=λe=>q (AG c.one ((c.qB _ _).2 e) f);obtain⟨a,b,I,J,P⟩:=YN (p:=(l',m)) hf;have r:t.2.Nodup:=Kr c.yi;have B:∀p,p∈t.2.eraseP (λx=>x.1==l')↔p∈t.2/\p≠(l',m):=by
   intro p;rw[J];rw[I] at r⊢;rw[cC,cU] at r;obtain⟨_,⟨K,_⟩,L⟩:=r;simp only[aQ,aJ];constructor
   ·rintro(hp|hp);·exact⟨.inl hp,λe=>L p hp (l',m) (ay ..) e⟩
    ·exact⟨.inr (.inr hp),λe=>K (by rw[<-e];exact hp)⟩
   ·rintro⟨hp|hp|hp,M⟩;·exact .inl hp
    ·exact absurd hp M
    ·exact .inr hp
  refine⟨λe=>by(cases e),λC e=>?_⟩;cases e;refine⟨q,z,A,⟨?_,?_,?_,?_,?_⟩,B⟩
  ·show((t.1.erase (l',n)++[(l',m)]).map (·.1)).Nodup;rw[bA,cC];refine⟨y,by simp,?_⟩;intro i s D u;obtain⟨p,hp,rfl⟩:=aU.1 s;have N:D=l':=by simpa using u
   intro e';rw[N] at e';have O:p=(l',p.2):=kE e' rfl;rw[O] at hp;exact G _ hp
  ·intro i k;show(i,k)∈t.1.erase (l',n)++[(l',m)]↔_;rw[aQ,aE];by_cases d:k=m;·subst d;rw[wH,aQ,aE,o,vz _ _ q];simp
   ·rw[vz _ _ d,o];simp[d]
  ·intro k;by_cases d:k=m;·subst d;rw[wH,cC];refine⟨c.nd _,by simp,?_⟩;intro i s D u;rw[aE.1 u];rintro rfl;exact A s
   ·rw[vz _ _ d];exact v k
  ·show((t.2.eraseP λx=>x.1==l').map (·.2)).Nodup;exact c.yi.sublist ((List.eraseP_sublist).map _)
  ·intro i k d;have E:=(B _).1 d;obtain⟨C,g,j⟩:=c.se i k E.1;by_cases F:i=l';·subst F;refine⟨m,?_,cZ _ (aE.2 rfl)⟩;rintro rfl;exact E.2 rfl
   ·exact⟨C,g,cy _ ((Hn c.one _ f).2 ⟨j,F⟩)⟩
structure yZ(t:nt)(h:Int->List Int)(n:Int)(P:Int->Prop)(r:nt×List (Int×Int))(a:Int->List Int):Prop where
 kW:xe r.1 a
 AH:∀l,l∈a n↔l∈h n/\P l
 tE:∀p∈r.2,p.2≠n/\p∈t.2/\p∉r.1.2
 nd:(r.2.map (·.2)).Nodup
 all:∀p∈t.2,p.2≠n->p∈r.2\/p∈r.1.2
 rest:∀p∈r.1.2,p∈t.2/\p.2≠n
 lA:∀m,m≠n->a m=h m++(r.2.filter λp=>p.2==m).map (·.1)
theorem yZ.step{t:nt}{h:Int->List Int}{n:Int}{P:Int->Prop}{r:nt×List (Int×Int)}{s:Int->List Int}(F:(t.2.map (·.2)).Nodup)(d:yZ t h n P r s)(x:Int×Int)(G:x.2=n->x.1∈s n):∃f,yZ t h n (λl=>P l/\(x.2=n->l≠x.1)) (vI n r x) f:=by
 unfold vI;by_cases g:x.2=n
 ·rw[aj g];have hf:=d.kW.free (G g);generalize pw r.1 n x.1=y at*;obtain⟨i,o⟩:=y;cases o with
  |none=>
   obtain⟨j,f⟩:=hf.none rfl;refine⟨_,j,λl=>?_,?_,d.nd,?_,?_,?_⟩;·rw[wH,bp,d.AH];simp[g,and_assoc]
   ·intro p hp;have:=d.tE p hp;exact⟨this.1,this.2.1,by show p∉i.2;rw[show i.2=r.1.2 from f];exact this.2.2⟩
   ·intro p hp u;show p∈r.2\/p∈i.2;rw[show i.2=r.1.2 from f];exact d.all p hp u
   ·intro p hp;exact d.rest p (by rw[<-show i.2=r.1.2 from f];exact hp)
   ·intro m B;rw[vz _ _ B];exact d.lA m B
  |some m=>
   obtain⟨j,f,L,H,q⟩:=hf.some m rfl;have C:=d.rest _ f;refine⟨_,H,λl=>?_,?_,?_,?_,?_,?_⟩;·rw[vz _ _ (fE j),wH,bp,d.AH];simp[g,and_assoc]
   ·intro p hp;rcases aQ.1 hp with hp|hp
    ·have:=d.tE p hp;exact⟨this.1,this.2.1,λe=>this.2.2 ((q p).1 e).1⟩
    ·rw[aE.1 hp];exact⟨j,C.1,λe=>((q _).1 e).2 rfl⟩
   ·show((r.2++[(x.1,m)]).map (·.2)).Nodup;rw[bA,cC];refine⟨d.nd,by simp,?_⟩;intro a I b J;have K:b=m:=by simpa using J
    obtain⟨p,hp,rfl⟩:=aU.1 I;intro e;rw[K] at e;have v:=d.tE p hp;have w:p=(p.1,m):=kE rfl e;have:p.1=x.1:=Ea F (c:=m) (by rw[<-w];exact v.2.1) C.1;rw[this] at w;rw[w] at v;exact v.2.2 f
   ·intro p hp u;show p∈r.2++[(x.1,m)]\/p∈i.2;rcases d.all p hp u with z|z
    ·exact .inl (cy _ z)
    ·(by_cases D:p=(x.1,m);·exact .inl (cZ _ (aE.2 D)));·exact .inr ((q p).2 ⟨z,D⟩)
   ·intro p hp;exact d.rest p ((q p).1 hp).1
   ·intro k E;show _=h k++((r.2++[(x.1,m)]).filter λp=>p.2==k).map (·.1);rw[cm,bA,<-aV,<-d.lA k E];by_cases A:k=m;·subst A;rw[wH];simp
    ·rw[vz _ _ A,vz _ _ E];simp[fE A]
 ·rw[ai g];exact⟨s,d.kW,λl=>by rw[d.AH];simp[g],d.tE,d.nd,d.all,d.rest,d.lA⟩
theorem yZ.AE{t:nt}{h:Int->List Int}{n:Int}(m:(t.2.map (·.2)).Nodup):∀(l:List (Int×Int)) {P:Int->Prop} {r:nt×List (Int×Int)} {c:Int->List Int},yZ t h n P r c->(l.map (·.1)).Nodup->(∀x∈l,x.2=n->x.1∈c n)->∃o,yZ t h n (λk=>P k/\(k,n)∉l) (l.foldl (vI n) r) o
 |[],P,r,c,d,_,_=>⟨c,d.kW,λl=>by rw[d.AH];simp,d.tE,d.nd,d.all,d.rest,d.lA⟩
 |x::l,P,r,c,d,f,p=>by
  rw[bk,cU] at f;obtain⟨o,q⟩:=d.step m x (p x (ay ..));obtain⟨u,a⟩:=yZ.AE m l q f.2 (λy s v=>by have b:=p y (aI _ s) v;rw[q.AH];rw[d.AH] at b;refine⟨b.1,b.2,λ_ e=>f.1 (aU.2 ⟨y,s,e⟩)⟩);refine⟨u,a.kW,λk=>?_,a.tE,a.nd,a.all,a.rest,a.lA⟩;rw[a.AH,aJ,not_or];constructor;·rintro⟨b,⟨g,i⟩,j⟩;refine⟨b,g,λe=>?_,j⟩;exact i (by rw[<-e]) (by rw[<-e])
  ·rintro⟨b,g,i,j⟩;exact⟨b,⟨g,λw z=>i (kE z w.symm)⟩,j⟩
theorem xe.drop{t:nt}{h:Int->List Int}(c:xe t h)(n:Int):∃f,yZ t h n (λ_=>False) (u6 t n) f:=by
 have i:yZ t h n (λ_=>True) ((t.1,t.2.filter λw=>!(w.2==n)),[]) h:=by
  refine⟨⟨c.one,c.qB,c.nd,c.yi.sublist (dJ.map _),λa k j=>c.se a k (bp.1 j).1⟩,by simp,by simp,by simp,?_,?_,by simp⟩;·intro p hp m;exact .inr (bp.2 ⟨hp,by simp[m]⟩)
  ·intro p hp;have:=bp.1 hp;exact⟨this.1,by simpa using this.2⟩
 obtain⟨f,d⟩:=i.AE c.yi t.1 c.one (λx o e=>by obtain⟨a,b⟩:=x;dsimp only at e;subst e;exact(c.qB _ _).1 o);refine⟨f,d.kW,λl=>?_,d.tE,d.nd,d.all,d.rest,d.lA⟩;rw[d.AH];constructor;·rintro⟨g,_,q⟩;exact absurd ((c.qB _ _).2 g) q
 ·rintro⟨_,g⟩;exact g.elim
end Top
namespace Top
open YtkbifmngmocjnaaGreatDoor
def sf(kK:List lr):Int->List Int:=λn=>if 0<=n then((kK[n.toNat]?).map (·.lA)).getD [] else[]
theorem Fu(kK:List lr)(k:Nat):sf kK (k:Int)=((kK[k]?).map (·.lA)).getD []:=by unfold sf;rw[aj Zo];rfl
theorem y0{kK:List lr}{k:Nat}{t:lr}(h:kK[k]? =some t):sf kK (k:Int)=t.lA:=by rw[Fu,h];rfl
theorem Ks{kK:List lr}{l n:Int}(h:l∈sf kK n):∃(k:Nat) (t:lr),n=(k:Int)/\kK[k]? =some t/\l∈t.lA:=by
 unfold sf at h;split at h
 ·cases a:kK[n.toNat]? with
  |none=>rw[a] at h;simp at h
  |some t=>rw[a] at h;exact⟨n.toNat,t,by omega,a,h⟩
 ·simp at h
def vt(kW:nt)(k:Nat)(t:lr):lr:=match pl kW k with
 |some l=>mO t (1,l)
 |none=>t
theorem Ho(kW:nt)(k:Nat)(t:lr):(pl kW k=none/\vt kW k t=t)\/∃l,pl kW k=some l/\vt kW k t=mO t (1,l):=by
 unfold vt;cases h:pl kW k with
 |none=>exact .inl ⟨rfl,rfl⟩
 |some l=>exact .inr ⟨l,rfl,rfl⟩
def fx(t:lr):mo×Bool×Bool×Int×Int×Int×Int×lU:=(t.call,t.done,t.mS,t.mV,t.IB,t.mark,t.mK,t.lM)
theorem Qa(t:lr)(l:Int):fx (mO t (1,l))=fx t:=rfl
theorem wI(kW:nt)(k:Nat)(t:lr):fx (vt kW k t)=fx t:=by rcases Ho kW k t with⟨_,h⟩|⟨l,_,h⟩<;>rw[h];exact Qa t l
theorem zQ{t u:lr}(h:fx t=fx u):t.call=u.call:=congrArg (·.1) h
theorem wJ{t u:lr}(h:fx t=fx u):t.done=u.done:=congrArg (·.2.1) h
theorem Qb{t u:lr}(h:fx t=fx u):t.mS=u.mS:=congrArg (·.2.2.1) h
theorem Hp(kW:nt)(k:Nat)(t:lr):(pl kW k=none/\(vt kW k t).lA=t.lA)\/∃l,pl kW k=some l/\(vt kW k t).lA=t.lA++[l]:=by
 rcases Ho kW k t with⟨a,h⟩|⟨l,a,h⟩<;>rw[h];·exact .inl ⟨a,rfl⟩
 ·exact .inr ⟨l,a,rfl⟩
def Qc(ns:List la)(ll:List kV)(lA:List Int)(pos:Int):Prop:=
 (lA=[]/\pos=0)\/(∃a,lA=[a]/\nM a=true/\0<=pos/\pos<=ll.length)\/
 (∃a b,lA=[a,b]/\nM a=true/\nM b=true/\(nr ns b).map (·.lZ)=some a/\1<=pos/\pos<=ll.length)
def pi(ns:List la)(t:lr):Prop:=match nf t.call with
 |.plain=>t.lA=[]/\t.pos=0
 |.pT=>t.lA<+:ry ns t.call/\t.pos=0
 |.U ll=>Qc ns ll t.lA t.pos
theorem Cm{p:kV}{ll:List kV}(h:oy p=some ll):ll.length<=16:=by
 unfold oy at h;split at h;·cases h;exact aR _
 ·split at h
  ·split at h;·rename_i hf;cases h;unfold Bc at hf;simp only[aF,bz] at hf;exact hf.1
   ·cases h
  ·cases h
theorem CC{c:mo}{ll:List kV}(h:nf c=.U ll):ll.length<=16:=by
 unfold nf at h;split at h;·cases h
 ·split at h
  ·split at h;·cases h;exact aR _
   ·rename_i a hp;have:=Cm hp;cases h;split;·exact this
    ·rw[iz];omega
  ·split at h<;>cases h
structure pP(X:Nat->Prop)(ns:List la)(kW:nt)(kK:List lr):Prop where
 lk:xe kW (sf kK)
 tQ:∀l n,(l,n)∈kW.2->∃(k:Nat) (t:lr),n=(k:Int)/\kK[k]? =some t/\t.done=false
 ok:∀(k:Nat) (t:lr),kK[k]? =some t->t.done=false->¬X k->pi ns (vt kW k t)
 bd:∀(k:Nat) (t:lr),kK[k]? =some t->(vt kW k t).lA.length<=3/\0<=t.pos/\(vt kW k t).pos<=16
 mS:∀t∈kK,t.mS=true->t.done=true/\t.lA=[]
theorem pi.bd{ns:List la}{t:lr}(h:pi ns t):t.lA.length<=3/\0<=t.pos/\t.pos<=16:=by
 unfold pi at h;split at h;·rw[h.1,h.2];simp
 ·have c:=h.1.length_le;have:=J3 ns t.call;rw[h.2];omega
 ·rename_i ll e;have hl:=CC e;rcases h with⟨c,d⟩|⟨a,c,_,d,f⟩|⟨a,b,c,_,_,_,d,f⟩<;>rw[c]
  ·rw[d];simp
  ·simp only[aG,bm];omega
  ·simp only[aG,bm];omega
def s6(kK:List lr)(a:List (Int×Int)):List lr:=a.foldl (λl h=>r8 l h.2 λt=>mO t (1,h.1)) kK
theorem Qd:∀(a:List (Int×Int)) (s:lD),a.foldl ri s={s with kK:=s6 s.kK a}
 |[],_=>rfl
 |p::a,s=>by rw[bU,Qd a];rfl
theorem Qe(l:List lr)(n:Int)(f:lr->lr)(a:0<=n)(k:Nat):(r8 l n f)[k]? =(l[k]?).map λt=>if n=(k:Int) then f t else t:=by
 unfold r8;rw[aj a,bM];cases l[k]? with
 |none=>rfl
 |some t=>
  show some (if n.toNat=k then f t else t)=some (if n=(k:Int) then f t else t);by_cases h:n=(k:Int);·rw[aj h,aj Zo]
  ·rw[ai h,ai Zo]
def vQ(a:List (Int×Int))(k:Nat)(t:lr):lr:=match a.find? (λp=>p.2==(k:Int)) with
 |some p=>mO t (1,p.1)
 |none=>t
theorem Qf:∀(a:List (Int×Int)) (kK:List lr),(a.map (·.2)).Nodup->(∀p∈a,0<=p.2)->∀k:Nat,(s6 kK a)[k]? =(kK[k]?).map (vQ a k)
 |[],kK,_,_,k=>by cases h:kK[k]?<;>simp[s6,h,vQ]
 |p::a,kK,c,f,k=>by
  rw[bk,cU] at c;show(s6 (r8 kK p.2 λt=>mO t (1,p.1)) a)[k]? =_;rw[Qf a _ c.2 (λq d=>f q (aI _ d)) k,Qe _ _ _ (f p (ay ..)),di];cases kK[k]? with
  |none=>rfl
  |some t=>
   simp only[aW,cD,Function.comp];unfold vQ;rw[dA];by_cases b:p.2=(k:Int);·(rw[aj b,show(p.2==(k:Int))=true from by simp[b]];have:a.find? (λq=>q.2==(k:Int))=none:=by rw[bK];intro q d;simp only[ck];intro e;exact c.1 (aU.2 ⟨q,d,by rw[e,b]⟩));rw[this]
   ·rw[ai b,show(p.2==(k:Int))=false from by simp[b]]
theorem YO{e:List (Int×Int)}(g:(e.map (·.2)).Nodup){p:Int×Int}(hp:p∈e):e.find? (λq=>q.2==p.2)=some p:=by
 cases hf:e.find? (λq=>q.2==p.2) with
 |none=>have:=bK.1 hf p hp;simp at this
 |some q=>
  have h:=bF hf;have f:q.2=p.2:=by simpa using cP hf
  obtain⟨a,b⟩:=p;obtain⟨c,d⟩:=q;dsimp only at f;subst f;rw[Ea g h hp]
theorem YP{a:List (Int×Int)}(b:(a.map (·.2)).Nodup)(m:Int):(a.filter λp=>p.2==m)=((a.find? λp=>p.2==m).map λp=>[p]).getD []:=by
 induction a with
 |nil=>rfl
 |cons p a c=>
  rw[bk,cU] at b;rw[cX,dA];by_cases hp:p.2=m;·rw[show(p.2==m)=true from by simp[hp]];simp only[cc,aW,aN,cH,gS];rw[cT];intro q d;simp only[ck];intro e;exact b.1 (aU.2 ⟨q,d,by rw[e,hp]⟩)
  ·rw[show(p.2==m)=false from by simp[hp]];simp only[aM,bH];exact c b.2
structure AI(kW:nt)(kK:List lr)(b:nt)(a:List lr)(n:Nat):Prop where
 len:a.length=kK.length
 vt:∀(k:Nat) (t:lr),k≠n->kK[k]? =some t->∃t',a[k]? =some t'/\Top.vt b k t'=Top.vt kW k t
theorem AI.Fb{kW a:nt}{kK b:List lr}{n:Nat}(h:AI kW kK a b n){k:Nat}{t':lr}(e:k≠n)(c:b[k]? =some t'):∃t,kK[k]? =some t/\Top.vt a k t'=Top.vt kW k t:=by
 have hl:k<kK.length:=by have:=(ax.1 c).1;have:=h.len;omega
 obtain⟨t2,d,f⟩:=h.vt k kK[k] e (ad hl);rw[c] at d;cases d;exact⟨kK[k],ad hl,f⟩
theorem CD{t:nt}{h:Int->List Int}(a:xe t h){n l:Int}:pl t n=some l↔(l,n)∈t.2:=YJ a.yi
theorem pP.tE{X:Nat->Prop}{ns:List la}{kW r:nt}{kK:List lr}(s:pP X ns kW kK){n:Nat}{t t':lr}(V:kK[n]? =some t){f:List (Int×Int)}{P:Int->Prop}{F:Int->List Int}(d:yZ kW (sf kK) n P (r,f) F) (W:t'.lA=F n) (Y:t'.done=false->¬X n->pi ns t') (kF:t'.lA.length<=3/\0<=t'.pos/\t'.pos<=16) (kG:t'.mS=true->t'.done=true/\t'.lA=[]):pP X ns r (s6 (kK.set n t') f)/\AI kW kK r (s6 (kK.set n t') f) n/\(s6 (kK.set n t') f)[n]? =some t'/\pl r n=none:=by
 have kH:n<kK.length:=(ax.1 V).1;have M:=d.kW;have G:∀p∈f,∃(k:Nat) (t:lr),p.2=(k:Int)/\kK[k]? =some t/\t.done=false:=λp hp=>s.tQ p.1 p.2 (d.tE p hp).2.1;have N:∀p∈f,0<=p.2:=λp hp=>by obtain⟨k,_,h,_⟩:=G p hp;omega
 have O:=Qf f (kK.set n t') d.nd N;have kI:f.find? (λp=>p.2==(n:Int))=none:=by rw[bK];intro p hp;simp only[ck];exact(d.tE p hp).1
 have B:(s6 (kK.set n t') f)[n]? =some t':=by rw[O,cB kH];unfold vQ;simp only[aW,kI]
 have lL:(s6 (kK.set n t') f).length=kK.length:=by
  have i:∀(f:List (Int×Int)) (l:List lr),(s6 l f).length=l.length:=by
   intro f;induction f with
   |nil=>intro l;rfl
   |cons p f ih=>intro l;show(s6 (r8 l p.2 _) f).length=_;rw[ih];unfold r8;split<;>simp
  rw[i,bB]
 have z:∀(k:Nat),k≠n->(s6 (kK.set n t') f)[k]? =(kK[k]?).map (vQ f k):=by intro k j;rw[O,jX (fE j)]
 have H:pl r n=none:=yY.2 λl hl=>(d.rest _ hl).2 rfl;have I:∀(k:Nat) (u:lr),k≠n->kK[k]? =some u->Top.vt r k (vQ f k u)=Top.vt kW k u:=by
  intro k u j g;rcases Ho kW k u with⟨i,v⟩|⟨l,i,v⟩
  ·rw[v];rw[yY] at i;have A:f.find? (λp=>p.2==(k:Int))=none:=by rw[bK];intro p hp;simp only[ck];intro e;exact i p.1 (by rw[<-e];exact(d.tE p hp).2.1)
   have w:pl r k=none:=yY.2 λl hl=>i l (d.rest _ hl).1;unfold vQ Top.vt;rw[A,w]
  ·rw[v];have A:=(CD s.lk).1 i;rcases d.all _ A (by show(k:Int)≠n;omega) with w|w
   ·(have y:=YO d.nd w;have o:pl r k=none:=yY.2 λl' J=>by have K:=(d.rest _ J).1;have h8:l'=l:=Ea s.lk.yi K A;rw[h8] at J;exact(d.tE _ w).2.2 J);unfold vQ Top.vt;dsimp only at y;rw[y,o]
   ·have y:f.find? (λp=>p.2==(k:Int))=none:=by(rw[bK];intro p hp;simp only[ck];intro e;have o:=d.tE p hp;have K:p=(l,(k:Int)):=by have:=Ea s.lk.yi (a:=p.1) (b:=l) (c:=(k:Int)) (by rw[<-e];exact o.2.1) A;exact kE this e);rw[K] at o;exact o.2.2 w
    have o:=(CD M).2 w;unfold vQ Top.vt;dsimp only at o;rw[y,o]
 have C:∀(k:Nat) (u:lr),fx (vQ f k u)=fx u:=by
  intro k u;unfold vQ;split;·exact Qa _ _
  ·rfl
 refine⟨⟨?_,?_,?_,?_,?_⟩,⟨lL,λk u j g=>⟨vQ f k u,by rw[z k j,g];rfl,I k u j g⟩⟩,B,H⟩
 ·have he:sf (s6 (kK.set n t') f)=F:=by
   funext m;by_cases D:m=(n:Int);·subst D;rw[y0 B,W]
   ·rw[d.lA m D,YP d.nd];by_cases Q:0<=m
    ·(obtain⟨k,rfl⟩:∃k:Nat,m=(k:Int):=⟨m.toNat,by omega⟩;have j:k≠n:=by omega);rw[Fu,Fu,z k j];cases g:kK[k]? with
     |none=>(have:f.find? (λp=>p.2==(k:Int))=none:=by(rw[bK];intro p hp;simp only[ck];intro e;obtain⟨L,t2,i,v,_⟩:=G p hp;have:L=k:=by omega);subst this;rw[g] at v;cases v);rw[this];rfl
     |some u=>
      simp only[aW,aN];unfold vQ;cases f.find? (λp=>p.2==(k:Int)) with
      |none=>simp
      |some p=>rfl
    ·(have:f.find? (λp=>p.2==m)=none:=by rw[bK];intro p hp;simp only[ck];have:=N p hp;omega);rw[this];unfold sf;rw[ai Q,ai Q];rfl
  rw[he];exact M
 ·intro l m D;have i:=d.rest _ D;obtain⟨k,u,rfl,g,E⟩:=s.tQ l m i.1;have j:k≠n:=λe=>i.2 (by rw[e]);exact⟨k,vQ f k u,rfl,by rw[z k j,g];rfl,by rw[wJ (C k u)];exact E⟩
 ·intro k u g E R;by_cases j:k=n;·subst j;rw[B] at g;cases g;unfold vt;rw[H];exact Y E R
  ·rw[z k j] at g;obtain⟨q,x,rfl⟩:=cp.1 g;rw[I k q j x];exact s.ok k q x (by rw[<-wJ (C k q)];exact E) R
 ·intro k u g;by_cases j:k=n;·subst j;rw[B] at g;cases g;unfold vt;rw[H];exact kF
  ·rw[z k j] at g;obtain⟨q,x,rfl⟩:=cp.1 g;rw[I k q j x];have i:=s.bd k q x;refine⟨i.1,?_,i.2.2⟩;unfold vQ;split;·unfold mO;rw[aj rfl];dsimp only;split<;>omega
   ·exact i.2.1
 ·intro u g S;obtain⟨k,j,rfl⟩:=cr g;have g:=ad j;generalize(s6 (kK.set n t') f)[k]=u at*;by_cases T:k=n;·subst T;rw[B] at g;cases g;exact kG S
  ·rw[z k T] at g;obtain⟨q,x,rfl⟩:=cp.1 g;have i:=s.mS q (ar x) (by rw[<-Qb (C k q)];exact S);refine⟨by rw[wJ (C k q)];exact i.1,?_⟩;unfold vQ;cases hf:f.find? (λp=>p.2==(k:Int)) with
   |none=>exact i.2
   |some p=>
    (have v:=bF hf;have A:p.2=(k:Int):=by simpa using cP hf);obtain⟨L,t2,w,y,o⟩:=G p v;have:L=k:=by omega
    subst this;rw[x] at y;cases y;rw[i.1] at o;cases o
end Top
namespace Top
open YtkbifmngmocjnaaGreatDoor
def yj(L:Nat)(lA:List Int)(pos:Int):Nat:=match lA with
 |[]=>2*L+1
 |[_]=>2*(L-pos.toNat)
 |_=>2*(L-pos.toNat)+1
def vR(ns:List la)(ll:List kV)(lA:List Int)(pos:Int):Bool:=match lA.getLast? with
 |none=>true
 |some h=>decide (oQ ns (ll.take pos.toNat)=(h,0))
def xf(ns:List la)(t:lr):Bool:=match nf t.call with
 |.U ll=>vR ns ll t.lA t.pos
 |_=>true
def nW(ns:List la)(a:Bool)(t:lr):Nat:=
 if t.mS then 0
 else if t.done then(if t.call.kind=12 then(if a then 1 else t.lA.length+2) else t.lA.length+1)
 else match nf t.call with
  |.plain=>3
  |.pT=>8-t.lA.length
  |.U ll=>yj ll.length t.lA t.pos+(if vR ns ll t.lA t.pos then 0 else 2*ll.length+2)+3
theorem Kt{l:List la}:∀(xs b:List kV) (a d:Int),pk l a xs=(d,0)->pk l a (xs++b)=pk l d b
 |[],b,a,d,h=>by simp only[pk,bE,fu] at h;rw[h];rfl
 |s::xs,b,a,d,h=>by
  rw[bQ];rw[pk] at h⊢;split at h
  ·rename_i e;rw[aj e];cases c:oP l a s with
   |none=>rw[c] at h;simp at h
   |some k=>rw[c] at h;exact Kt xs b k d h
  ·simp at h
theorem Ku{c:mo}{ll:List kV}(h:nf c=.U ll):qi c=true:=by unfold qi;rw[h]
theorem YQ{c:mo}(h:nf c=.pT):qi c=false:=by unfold qi;rw[h]
theorem Hq(t:lr)(l:Int):mO t (1,l)={t with lA:=t.lA++[l],pos:=if t.lA.length=1/\qi t.call=true then t.pos+1 else t.pos}:=rfl
theorem Kv(t:lr)(l:Int):mO t (2,l)={t with lA:=t.lA.filter (λk=>!(k==l)),pos:=if t.lA.filter (λk=>!(k==l))=[]/\t.done=false/\qi t.call=true then 0 else t.pos}:=rfl
theorem CE{ns:List la}{t:lr}(a:t.done=false)(b:t.mS=false):pZ ns t=match nf t.call with
 |.plain=>(3,0)
 |.pT=>match(ry ns t.call).find? λk=>!(t.lA.contains k) with
  |some k=>(1,k)
  |none=>(3,0)
 |.U ll=>
  match t.lA with
  |[]=>(1,0)
  |oL::_::_=>(2,oL)
  |[oL]=>
   match(if 0<=t.pos/\t.pos<ll.length then(oP ns oL (ll.getD t.pos.toNat [])).bind (λid=>if nM id then some id else none) else none) with
   |some id=>(1,id)
   |none=>match oQ ns ll with
    |(id,e)=>if e=0/\nM id=true/\id≠oL then(2,oL) else(3,0):=by
 unfold pZ;rw[a,b];simp only[aM,bH,false_and];rfl
theorem Eb{ns:List la}{t:lr}(a:t.done=true)(b:t.mS=false):pZ ns t=if t.lA≠[] then(2,t.lA.headD 0) else if t.call.kind=12 then(4,0) else(5,0):=by unfold pZ;rw[a,b];simp only[aM,bH,gS,cc]
theorem Qg{lA a:List Int}(hp:lA<+:a)(b:a.Nodup):(∃k,a.find? (λk=>!(lA.contains k))=some k/\k∉lA/\lA++[k]<+:a)\/(a.find? (λk=>!(lA.contains k))=none/\lA=a):=by
 obtain⟨r,rfl⟩:=hp;have d:lA.find? (λk=>!(lA.contains k))=none:=by rw[bK];intro x f;simp[f]
 rw[hY,d,Option.none_or];cases r with
 |nil=>exact .inr ⟨rfl,by simp⟩
 |cons k r=>rw[cC] at b;have c:k∉lA:=λe=>b.2.2 k e k (ay ..) rfl;refine .inl ⟨k,?_,c,⟨r,by simp⟩⟩;rw[dA];simp[c]
theorem YR{ns:List la}(hl:nb ns)(y:uu ns){t:lr}(h:pi ns t)(q:t.done=false)(s:t.mS=false){l:Int}(d:pZ ns t=(1,l))(b:Bool):l∉t.lA/\pi ns (mO t (1,l))/\nW ns b (mO t (1,l))<nW ns b t/\(xf ns t=true->xf ns (mO t (1,l))=true):=by
 rw[CE q s] at d;unfold pi at h⊢;unfold nW xf;rw[Hq];simp only[q,s,aM,bH];cases g:nf t.call with
 |plain=>rw[g] at d;simp at d
 |pT=>
  rw[g] at d h;simp only at d h⊢;rcases Qg h.1 (J2 ns t.call) with⟨k,e,f,j⟩|⟨e,_⟩
  ·rw[e] at d;simp only[bE,gS] at d;subst d;have lL:=j.length_le;have:=J3 ns t.call;rw[YQ g];simp only[ak,aG,bm] at*;exact⟨f,⟨j,by simpa using h.2⟩,by omega,λ_=>trivial⟩
  ·rw[e] at d;simp at d
 |U ll=>
  rw[g] at d h;simp only at d h⊢;rcases h with⟨e,f⟩|⟨a,e,f,j,H⟩|⟨a,c,e,_⟩
  ·rw[e] at d;simp only[bE,gS] at d;subst d;rw[e,f];simp only[bm,aS,vR,ia,yj];refine⟨by simp,.inr (.inl ⟨0,rfl,rfl,by simp,by simp⟩),?_,?_⟩;·simp[oQ,pk]
   ·intro _;simp[oQ,pk]
  ·rw[e] at d;simp only at d;split at d
   ·rename_i id m;simp only[bE,gS] at d;subst d;split at m
    ·rename_i z;obtain⟨c,i,o⟩:=Option.bind_eq_some_iff.1 m;split at o
     ·rename_i A;cases o;have u:=Xv hl i;have B:id≠a:=by rintro rfl;obtain⟨r,C⟩:=y;obtain⟨n,v⟩:=cp.1 u;obtain⟨D,E⟩:=ur v.1;have:=C n D;rw[v.2,E] at this;omega
      (rw[e,Ku g];simp only[aG,bm,cV,and_self,cc,aD];obtain⟨p,hp⟩:∃p:Nat,t.pos=(p:Int):=⟨t.pos.toNat,by omega⟩;rw[hp] at z i⊢;rw[show(p:Int)+1=((p+1:Nat):Int) from by omega];rw[bC] at i;have F:p<ll.length:=by omega);have w:vR ns ll [a] (p:Int)=true->vR ns ll [a,id] ((p+1:Nat):Int)=true:=by unfold vR;simp only[jB,List.getLast?_cons_cons,bC,bz];intro x;rw[show ll.take (p+1)=ll.take p++[ll.getD p []] from by rw[aT,cF,ad F];rfl];unfold oQ at x⊢;rw[Kt _ _ _ _ x];rw[pk,aj f,i];rfl
      refine⟨by simp[B],.inr (.inr ⟨a,id,rfl,f,A,u,by omega,by omega⟩),?_,w⟩;simp only[yj,bC];cases G:vR ns ll [a] (p:Int) with
      |true=>rw[w G];simp only[cc];omega
      |false=>simp only[aM,bH];split<;>omega
     ·cases o
    ·cases m
   ·split at d<;>simp at d
  ·rw[e] at d;simp at d
theorem YS{ns:List la}{t:lr}(h:pi ns t)(o:t.lA.Nodup)(q:t.done=false)(u:t.mS=false){l:Int}(d:pZ ns t=(2,l))(b:Bool):l∈t.lA/\pi ns (mO t (2,l))/\nW ns b (mO t (2,l))<nW ns b t/\(xf ns t=true->xf ns (mO t (2,l))=true):=by
 rw[CE q u] at d;unfold pi at h⊢;unfold nW xf;rw[Kv];simp only[q,u,aM,bH];cases j:nf t.call with
 |plain=>rw[j] at d;simp at d
 |pT=>rw[j] at d;simp only at d;split at d<;>simp at d
 |U ll=>
  rw[j] at d h;simp only at d h⊢;rw[Ku j];rcases h with⟨g,n⟩|⟨a,g,n,v,w⟩|⟨a,c,g,n,v,w,I,z⟩
  ·rw[g] at d;simp at d
  ·rw[g] at d;simp only at d;split at d;·simp at d
   ·rename_i f;cases hf:oQ ns ll with
    |mk id e=>
     rw[hf] at d;simp only at d;split at d
     ·rename_i A;obtain⟨rfl,x,B⟩:=A;simp only[bE,gS] at d;subst d;have sk:vR ns ll [a] t.pos=false:=by
       unfold vR;simp only[jB,eA];intro i;obtain⟨p,hp⟩:∃p:Nat,t.pos=(p:Int):=⟨t.pos.toNat,by omega⟩;rw[hp] at i f w;rw[bC] at i f;by_cases C:p<ll.length
       ·(rw[aj Zo] at f;have D:ll=ll.take p++ll[p]::ll.drop (p+1):=by rw[dp,bT]);have E:ll.getD p []=ll[p]:=by rw[cF,ad C];rfl
        rw[E] at f;unfold oQ at hf i;rw[D,Kt _ _ _ _ i,pk,aj n] at hf;cases y:oP ns a ll[p] with
        |none=>rw[y] at hf;simp at hf
        |some k=>
         rw[y] at hf f;simp only[eB] at hf f;have m:nM k=false:=by
          cases m:nM k with
          |false=>rfl
          |true=>rw[m] at f;simp at f
         cases oC:ll.drop (p+1) with
         |nil=>rw[oC] at hf;simp only[pk,bE,fu] at hf;rw[<-hf,m] at x;cases x
         |cons s r=>rw[oC,pk,m] at hf;simp at hf
       ·rw[aY Zo,hf] at i;simp only[bE,fu] at i;exact B i
      rw[g,sk];simp only[cX,gA,eV,aM,bH,jF,and_self,cc,vR,ia,yj];exact⟨by simp,.inl ⟨rfl,rfl⟩,by omega,λ_=>trivial⟩
     ·simp at d
  ·rw[g] at d o;simp only[bE,gS] at d;subst d;have F:c≠a:=by rintro rfl;simp at o
   have G:[a,c].filter (λk=>!(k==a))=[c]:=by simp[F]
   rw[g,G];simp only[List.cons_ne_nil,false_and,bH];have H:vR ns ll [c] t.pos=vR ns ll [a,c] t.pos:=by unfold vR;simp
   rw[H];refine⟨by simp,.inr (.inl ⟨c,rfl,v,by omega,z⟩),?_,λh=>h⟩;simp only[yj];omega
theorem YT{ns:List la}{t:lr}(d:t.done=true)(e:t.mS=false){l:Int}(b:pZ ns t=(2,l)):l∈t.lA/\nW ns false (mO t (2,l))<nW ns false t:=by
 rw[Eb d e] at b;split at b
 ·rename_i f;cases c:t.lA with
  |nil=>exact absurd c f
  |cons a r=>
   rw[c] at b;simp only[iB,bE,gS] at b;subst b;refine⟨by simp,?_⟩;unfold nW;rw[Kv];simp only[d,e,aM,bH,cc];have g:(t.lA.filter λk=>!(k==a)).length<t.lA.length:=by rw[c,cX,show(!(a==a))=false from by simp];simp only[aM,bH,aG];have:=bG (λk=>!(k==a)) r;omega
   split<;>omega
 ·split at b<;>simp at b
theorem Qh{ns:List la}{t:lr}(h:pi ns t)(i:t.done=false)(j:t.mS=false){l:Int}(b:pZ ns t=(3,l)):(nf t.call=.plain/\t.lA=[])\/(nf t.call=.pT/\t.lA=ry ns t.call)\/(∃ll a,nf t.call=.U ll/\t.lA=[a]):=by
 rw[CE i j] at b;unfold pi at h;cases e:nf t.call with
 |plain=>rw[e] at h;exact .inl ⟨rfl,h.1⟩
 |pT=>
  rw[e] at b h;simp only at b h;rcases Qg h.1 (J2 ns t.call) with⟨k,d,f,g⟩|⟨_,d⟩
  ·rw[d] at b;simp at b
  ·exact .inr (.inl ⟨rfl,d⟩)
 |U ll=>
  rw[e] at b h;simp only at b h;rcases h with⟨d,f⟩|⟨a,d,f,g,m⟩|⟨a,c,d,f,g,m,n,o⟩
  ·rw[d] at b;simp at b
  ·exact .inr (.inr ⟨ll,a,rfl,d⟩)
  ·rw[d] at b;simp at b
theorem Qi{ns:List la}{t:lr}(b:t.mS=false){l:Int}(a:pZ ns t=(3,l)):t.done=false:=by
 cases c:t.done with
 |false=>rfl
 |true=>
  rw[Eb c b] at a;split at a;·simp at a
  ·split at a<;>simp at a
theorem Qj{ns:List la}{t:lr}(c:t.mS=false){k l:Int}(f:k=4\/k=5)(a:pZ ns t=(k,l)):t.done=true/\t.lA=[]/\(k=4↔t.call.kind=12):=by
 cases d:t.done with
 |false=>
  rw[CE d c] at a;exfalso;have:(k,l).1=4\/(k,l).1=5:=f;rw[<-a] at this;revert this;split;·simp
  ·split<;>simp
  ·split;·simp
   ·simp
   ·split;·simp
    ·split;split<;>simp
 |true=>
  rw[Eb d c] at a;split at a;·simp only[bE] at a;omega
  ·rename_i g;refine⟨rfl,by simpa using g,?_⟩;split at a;·rename_i b;simp only[bE] at a;exact⟨λ_=>b,λ_=>a.1.symm⟩
   ·rename_i b;simp only[bE] at a;exact⟨λe=>by omega,λe=>absurd e b⟩
theorem YU{ns:List la}{b:Bool}{t:lr}(h:pi ns t):nW ns b t<=69\/t.done=true:=by
 unfold nW;split;·exact .inl (aR _)
 ·split;·exact .inr ‹_›
  ·refine .inl ?_;unfold pi at h;split;·omega
   ·omega
   ·rename_i ll e;rw[e] at h;have hl:=CC e;rcases h with⟨d,f⟩|⟨a,d,f,g,i⟩|⟨a,c,d,f,g,i,j,k⟩<;>rw[d]
    ·simp only[yj,vR,ia,cc];omega
    ·simp only[yj];split<;>omega
    ·simp only[yj];split<;>omega
theorem YV{ns:List la}{b:Bool}{t:lr}(i:t.done=false)(h:pi ns t)(d:xf ns t=true):nW ns b t<=36:=by
 unfold nW;split;·omega
 ·rw[i];simp only[aM,bH];unfold pi at h;unfold xf at d;split;·omega
  ·omega
  ·rename_i ll f;rw[f] at h d;simp only at d;rw[d];have hl:=CC f;rcases h with⟨e,g⟩|⟨a,e,g,j,k⟩|⟨a,c,e,g,j,k,l,m⟩<;>rw[e]
   ·simp only[yj,cc];omega
   ·simp only[yj,cc];omega
   ·simp only[yj,cc];omega
theorem YW(ns qp:List la)(b:Bool)(t:lr):nW qp b t<=nW ns b t+34:=by
 unfold nW;split;·omega
 ·split;·omega
  ·split;·omega
   ·omega
   ·rename_i ll a;have hl:=CC a;split<;>split<;>omega
theorem YX(ns qp:List la)(b:Bool)(t:lr)(d:t.done=false)(e:t.mS=false)(a:qi t.call=true):nW qp b (pD t)<=nW ns b t+34:=by
 unfold nW pD;simp only[d,e,aM,bH];cases c:nf t.call with
 |plain=>unfold qi at a;rw[c] at a;cases a
 |pT=>unfold qi at a;rw[c] at a;cases a
 |U ll=>have hl:=CC c;simp only[yj,vR,ia,cc];omega
end Top
namespace Top
open YtkbifmngmocjnaaGreatDoor
theorem YY{kK:List lr}{n:Nat}{t:lr}(b:kK[n]? =some t)(f:lr->lr):sf (kK.modify n f)=tD (sf kK) (n:Int) (f t).lA:=by
 funext m;by_cases a:m=(n:Int);·subst a;rw[wH,Fu,bM,b];simp
 ·rw[vz _ _ a];unfold sf;split
  ·rw[bM];cases kK[m.toNat]? with
   |none=>rfl
   |some u=>show(if n=m.toNat then f u else u).lA=u.lA;rw[ai (show¬n=m.toNat from by omega)]
  ·rfl
theorem Qk{kK:List lr}{n:Nat}{t:lr}(b:kK[n]? =some t)(f:lr->lr):kK.modify n f=kK.set n (f t):=by
 apply cK;intro k;rw[bM,kz];by_cases a:n=k;·subst a;rw[b,aj rfl,aj (ax.1 b).1];simp
 ·rw[ai a];cases kK[k]?<;>simp[a]
theorem vS{kK:List lr}{n k:Nat}(f:lr->lr)(a:k≠n):(kK.modify n f)[k]? =kK[k]?:=by rw[bM];cases kK[k]?<;>simp[fE a]
theorem ym{kK:List lr}{n:Nat}{t:lr}(a:kK[n]? =some t)(f:lr->lr):(kK.modify n f)[n]? =some (f t):=by rw[bM,a];simp
theorem Ql{a b:nt}(h:a.2=b.2)(n:Int):pl a n=pl b n:=by unfold pl;rw[h]
theorem YZ{a b:nt}(h:a.2=b.2)(k:Nat)(t:lr):vt a k t=vt b k t:=by unfold vt;rw[Ql h]
theorem rP{kW:nt}{k:Nat}(h:pl kW k=none)(t:lr):vt kW k t=t:=by unfold vt;rw[h]
theorem pP.AJ{X:Nat->Prop}{ns:List la}{kW:nt}{kK:List lr}(c:pP X ns kW kK){k:Nat}{t:lr}(d:kK[k]? =some t)(e:t.done=true):pl kW k=none:=by
 rw[yY];intro l hl;obtain⟨f,t',g,a,b⟩:=c.tQ _ _ hl;have:f=k:=by omega
 subst this;rw[d] at a;cases a;rw[e] at b;cases b
theorem pP.take{X:Nat->Prop}{ns:List la}{kW:nt}{kK:List lr}(e:pP X ns kW kK){n:Nat}{t:lr}(g:kK[n]? =some t)(F:t.done=false)(G:t.mS=false)(r:pl kW n=none){l:Int}(hl:l∉t.lA)(s:pi ns (mO t (1,l))):pP X ns (qV kW n l).1 (if(qV kW n l).2 then kK.modify n λt=>mO t (1,l) else kK)/\ AI kW kK (qV kW n l).1 (if(qV kW n l).2 then kK.modify n λt=>mO t (1,l) else kK) n/\ ∃t',(if(qV kW n l).2 then kK.modify n λt=>mO t (1,l) else kK)[n]? =some t'/\vt (qV kW n l).1 n t'=mO t (1,l):=by
 have v:=s.bd;rcases e.lk.take (n:=(n:Int)) (l:=l) (by rw[y0 g];exact hl) (yY.1 r) with⟨o,h,f⟩|⟨o,h,f⟩
 ·generalize qV kW n l=y at*;obtain⟨i,b⟩:=y;dsimp only at o h f⊢;subst o;simp only[cc];have p:=ym g (λt=>mO t (1,l));have j:∀(k:Nat) (u:lr),vt i k u=vt kW k u:=λk u=>YZ f k u;have w:pl i n=none:=by rw[Ql f];exact r
  refine⟨⟨?_,?_,?_,?_,?_⟩,⟨by simp,λk u c d=>⟨u,by rw[vS _ c];exact d,j k u⟩⟩,_,p,by rw[rP w]⟩;·rw[YY g];rw[y0 g] at h;exact h
  ·intro a k c;rw[f] at c;obtain⟨C,t',D,H,I⟩:=e.tQ a k c;have:C≠n:=by rintro rfl;rw[D] at c;exact yY.1 r _ c
   exact⟨C,t',D,by rw[vS _ this];exact H,I⟩
  ·intro k u d x z;by_cases c:k=n;·subst c;rw[p] at d;cases d;rw[rP w];exact s
   ·rw[vS _ c] at d;rw[j];exact e.ok k u d x z
  ·intro k u d;by_cases c:k=n;·subst c;rw[p] at d;cases d;rw[rP w];exact v
   ·rw[vS _ c] at d;rw[j];exact e.bd k u d
  ·intro u d A;obtain⟨k,c⟩:=eU.1 d;by_cases E:k=n;·subst E;rw[p] at c;cases c;rw[show(mO t (1,l)).mS=t.mS from rfl,G] at A;cases A
   ·rw[vS _ E] at c;exact e.mS u (ar c) A
 ·generalize qV kW n l=y at*;obtain⟨i,b⟩:=y;dsimp only at o h f⊢;subst o;simp only[aM,bH];have J:pl i n=some l:=(CD h).2 (by rw[f];exact cZ _ (aE.2 rfl));have B:vt i n t=mO t (1,l):=by unfold vt;rw[J]
  have j:∀(k:Nat) (u:lr),k≠n->vt i k u=vt kW k u:=by
   intro k u c;have:pl i k=pl kW k:=by
    cases q:pl kW k with
    |none=>
     (rw[yY] at q⊢;intro a m;rw[f] at m;rcases aQ.1 m with m|m);·exact q a m
     ·rw[aE] at m;have:=congrArg Prod.snd m;dsimp only at this;omega
    |some a=>rw[CD e.lk] at q;rw[CD h,f];exact cy _ q
   unfold vt;rw[this]
  refine⟨⟨h,?_,?_,?_,e.mS⟩,⟨rfl,λk u c d=>⟨u,d,j k u c⟩⟩,t,g,B⟩
  ·intro a k c;rw[f] at c;rcases aQ.1 c with c|c
   ·exact e.tQ a k c
   ·rw[aE] at c;cases c;exact⟨n,t,rfl,g,F⟩
  ·intro k u d x z;by_cases c:k=n;·subst c;rw[g] at d;cases d;rw[B];exact s
   ·rw[j k u c];exact e.ok k u d x z
  ·intro k u d;by_cases c:k=n;·subst c;rw[g] at d;cases d;rw[B];have K:=e.bd k t g;exact⟨v.1,K.2.1,v.2.2⟩
   ·rw[j k u c];exact e.bd k u d
def xH(l:Int):Option Int->List (Int×Int)
 |none=>[]
 |some m=>[(l,m)]
theorem Kq.drop{t:nt}{h:Int->List Int}{n l:Int}{r:nt×Option Int}(f:Kq t h n l r)(i:∀k,(k,n)∉t.2):∃j,j n=(h n).filter (λk=>!(k==l))/\yZ t h n (λk=>k≠l) (r.1,xH l r.2) j:=by
 obtain⟨u,o⟩:=r;cases o with
 |none=>
  obtain⟨a,b⟩:=f.none rfl;dsimp only at a b;refine⟨_,wH _ _ _,a,λk=>?_,by simp[xH],by simp[xH],?_,?_,?_⟩;·rw[wH,bp];simp
  ·intro p hp _;exact .inr (by show p∈u.2;rw[b];exact hp)
  ·intro p hp;have c:p∈t.2:=by rw[<-b];exact hp
   exact⟨c,λe=>i p.1 (by rw[<-e];exact c)⟩
  ·intro m v;rw[vz _ _ v];simp[xH]
 |some m=>
  obtain⟨a,b,x,q,d⟩:=f.some m rfl;dsimp only at q d;refine⟨_,by rw[vz _ _ (fE a),wH],q,λk=>?_,?_,by simp[xH],?_,?_,?_⟩;·rw[vz _ _ (fE a),wH,bp];simp
  ·intro p hp;simp only[xH,aE] at hp;subst hp;exact⟨a,b,λe=>((d _).1 e).2 rfl⟩
  ·intro p hp _;by_cases s:p=(l,m);·exact .inl (by simp[xH,s])
   ·exact .inr ((d p).2 ⟨hp,s⟩)
  ·intro p hp;have c:=((d p).1 hp).1;exact⟨c,λe=>i p.1 (by rw[<-e];exact c)⟩
  ·intro k w;by_cases g:k=m;·subst g;rw[wH];simp[xH]
   ·rw[vz _ _ g,vz _ _ w];simp[xH,fE g]
theorem pP.Qm{X:Nat->Prop}{ns:List la}{kW:nt}{kK:List lr}(b:pP X ns kW kK){n:Nat}{t:lr}(a:kK[n]? =some t)(c:pl kW n=none){l:Int}(hl:l∈t.lA)(g:t.mS=false)(h:t.done=false->¬X n->pi ns (mO t (2,l))):pP X ns (pw kW n l).1 (s6 (kK.set n (mO t (2,l))) (xH l (pw kW n l).2))/\ AI kW kK (pw kW n l).1 (s6 (kK.set n (mO t (2,l))) (xH l (pw kW n l).2)) n/\ (s6 (kK.set n (mO t (2,l))) (xH l (pw kW n l).2))[n]? =some (mO t (2,l))/\pl (pw kW n l).1 n=none:=by
 have i:=b.bd n t a;rw[rP c] at i;obtain⟨j,f,d⟩:=(b.lk.free (n:=(n:Int)) (l:=l) (by rw[y0 a];exact hl)).drop (yY.1 c);rw[y0 a] at f;refine b.tE a d f.symm h ?_ (λe=>?_);·rw[Kv];dsimp only;have:=bG (λk=>!(k==l)) t.lA;split<;>omega
 ·rw[show(mO t (2,l)).mS=t.mS from rfl,g] at e;cases e
structure yG(t u:lr):Prop where
 lA:u.lA=t.lA
 pos:u.pos=t.pos
 call:u.call=t.call
 done:t.done=true->u.done=true
 mS:u.mS=true->t.mS=true\/(u.done=true/\t.lA=[])
theorem yG.vt{kW:nt}{k:Nat}{t u:lr}(h:yG t u):(vt kW k u).lA=(vt kW k t).lA/\(vt kW k u).pos=(vt kW k t).pos/\(Top.vt kW k u).call=(Top.vt kW k t).call:=by
 unfold Top.vt;split;·rw[Hq,Hq];dsimp only;rw[h.lA,h.pos,h.call];exact⟨rfl,rfl,rfl⟩
 ·exact⟨h.lA,h.pos,h.call⟩
theorem Y0{ns:List la}{t u:lr}(a:u.lA=t.lA)(b:u.pos=t.pos)(c:u.call=t.call):pi ns u↔pi ns t:=by unfold pi;rw[a,b,c]
theorem pP.map{X:Nat->Prop}{ns:List la}{kW:nt}{kK c:List lr}(f:pP X ns kW kK)(lL:c.length=kK.length)(h:∀(k:Nat) (t u:lr),kK[k]? =some t->c[k]? =some u->yG t u/\(u.done=true->t.done=true\/pl kW k=none)):pP X ns kW c:=by
 have g:∀(k:Nat) (u:lr),c[k]? =some u->∃t,kK[k]? =some t:=by intro k u a;have:=(ax.1 a).1;exact⟨kK[k]'Zo,ad _⟩
 have w:∀(k:Nat) (u:lr),kK[k]? =some u->∃t,c[k]? =some t:=by intro k u a;have:=(ax.1 a).1;exact⟨c[k]'Zo,ad _⟩
 refine⟨?_,?_,?_,?_,?_⟩
 ·have:sf c=sf kK:=by
   funext m;unfold sf;split
   ·cases a:c[m.toNat]? with
    |none=>(have:kK[m.toNat]? =none:=by rw[ei] at a⊢;omega);rw[this]
    |some u=>obtain⟨t,b⟩:=g _ _ a;rw[b];exact(h _ _ _ b a).1.lA
   ·rfl
  rw[this];exact f.lk
 ·intro l n p;obtain⟨k,t,e,s,x⟩:=f.tQ l n p;obtain⟨u,a⟩:=w _ _ s;refine⟨k,u,e,a,?_⟩;cases i:u.done with
  |false=>rfl
  |true=>
   rcases(h k t u s a).2 i with j|j;·rw[x] at j;cases j
   ·rw[e] at p;exact absurd p (yY.1 j l)
 ·intro k u a i y;obtain⟨t,b⟩:=g _ _ a;have d:=(h k t u b a).1;obtain⟨q,r,v⟩:=d.vt (kW:=kW) (k:=k);rw[Y0 q r v];refine f.ok k t b ?_ y;cases z:t.done with
  |false=>rfl
  |true=>rw[d.done z] at i;cases i
 ·intro k u a;obtain⟨t,b⟩:=g _ _ a;have d:=(h k t u b a).1;obtain⟨q,r,v⟩:=d.vt (kW:=kW) (k:=k);rw[q,r,d.pos];exact f.bd k t b
 ·intro u a A;obtain⟨k,d⟩:=eU.1 a;obtain⟨t,b⟩:=g _ _ d;have o:=(h k t u b d).1;rcases o.mS A with e|e
  ·have:=f.mS t (ar b) e;exact⟨o.done this.1,by rw[o.lA];exact this.2⟩
  ·exact⟨e.1,by rw[o.lA];exact e.2⟩
theorem pP.Kw{X b:Nat->Prop}{ns qp:List la}{kW:nt}{kK:List lr}(a:pP X ns kW kK)(h:∀(k:Nat) (t:lr),kK[k]? =some t->t.done=false->¬b k->pi qp (vt kW k t)):pP b qp kW kK:=⟨a.lk,a.tQ,h,a.bd,a.mS⟩
theorem Ky(ns:List la)(t:lr):pi ns (pD t):=by
 unfold pi pD;split;·exact⟨rfl,rfl⟩
 ·exact⟨fH,rfl⟩
 ·exact .inl ⟨rfl,rfl⟩
theorem pP.again{X:Nat->Prop}{ns:List la}{kW:nt}{kK:List lr}(b:pP X ns kW kK){n:Nat}{t:lr}(c:kK[n]? =some t)(i:t.done=false):pP (λk=>X k/\k≠n) ns (u6 kW n).1 (s6 (kK.modify n pD) (u6 kW n).2)/\ AI kW kK (u6 kW n).1 (s6 (kK.modify n pD) (u6 kW n).2) n/\ (s6 (kK.modify n pD) (u6 kW n).2)[n]? =some (pD t)/\pl (u6 kW n).1 n=none:=by
 rw[Qk c];obtain⟨j,d⟩:=b.lk.drop (n:Int);have m:j (n:Int)=[]:=by rw[fI];intro l hl;exact((d.AH l).1 hl).2
 have o:(pD t).mS=true->(pD t).done=true/\(pD t).lA=[]:=by intro e;have g:=b.mS t (ar c) e;rw[i] at g;exact absurd g.1 Zs
 have a:=b.tE c (t':=pD t) d (by rw[m];rfl) (λ_ _=>Ky ns t) (by simp[pD]) o;refine⟨?_,a.2⟩;refine a.1.Kw (λk u f p q=>?_);by_cases h:k=n;·subst h;rw[a.2.2.1] at f;cases f;rw[rP a.2.2.2];exact Ky ns t
 ·exact a.1.ok k u f p (λe=>q ⟨e,h⟩)
end Top
end Go.Proofs.YtkbifmngmocjnaaGreatDoor
