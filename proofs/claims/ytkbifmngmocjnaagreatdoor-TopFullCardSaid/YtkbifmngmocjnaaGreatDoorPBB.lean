/- Proved here, packed: what the parts Hisd Awak Awax Ends prove (rules of the walk, contracts of functions, plain laws). Conditions: in each statement. -/
import Derived.Test.YtkbifmngmocjnaaGreatDoorPBA
import Derived.Test.YtkbifmngmocjnaaGreatDoorCards
import Derived.Test.YtkbifmngmocjnaaGreatDoorTie
namespace Go.Proofs.YtkbifmngmocjnaaGreatDoor
set_option maxRecDepth 100000
set_option maxHeartbeats 8000000
set_option linter.all false
section
open Top Proofs.Tryz
theorem abj(H:kM)(A:Option Addr)(c:Nat)(l:List q7)(hl:l.length<=19)(W:World)(L:List kM):m3 prog W 119 #[.slice A l.length c,nN l.length,.func (.func 56) #[] #[]] (li 100 14 tW A c l::fz H::L) (λv L'=>v=.tuple #[]/\L'=li 100 14 tW A c (tX l).reverse::fz H::L):=by
 refine enter func119 ?_;refine U ?_;refine mP (λr σ L'=>r=0/\L'=li 100 14 tW A c l::fz H::L/\ml σ [(0,.slice A l.length c),(1,nN l.length),(2,.func (.func 56) #[] #[]),(6,nI 20),(7,nI 0),(8,nI 20)]) 0
  _ (s1 _) ⟨rfl,rfl,rfl,rfl,rfl,rfl,rfl,rfl,trivial⟩ ?_
 rintro r σ _ ⟨rfl,rfl,a⟩;obtain⟨b,rfl⟩:=a.open;refine U ?_;rw[show decide ((20:Int)<=(l.length:Int))=false from Zq];refine U ?_;refine nR (abi H A c l Zo W _) ?_;rintro _ _ ⟨rfl,rfl⟩;refine U ?_;refine mP (λr σ L'=>r=0/\L'=li 100 14 tW A c (tX l).reverse::fz H::L/\ml σ [(1,nN l.length),(6,nI 20)]) 0
  _ (s1 _) ⟨rfl,rfl,rfl,rfl,trivial⟩ ?_
 rintro r σ _ ⟨rfl,rfl,a⟩;obtain⟨b,rfl⟩:=a.open;refine U ?_;rw[show decide ((20:Int)<(l.length:Int))=false from Zq];refine U ?_;exact qD results119 lv ⟨rfl,rfl⟩
theorem abk(H:kM)(A:Option Addr)(c:Nat)(l:List q7)(hl:l.length<=19)(W:World)(L:List kM):m3 prog W 55 #[.slice A l.length c,.func (.func 56) #[] #[]] (li 100 14 tW A c l::fz H::L) (λv L'=>v=.tuple #[]/\L'=li 100 14 tW A c (tX l).reverse::fz H::L):=by refine enter func55 ?_;refine U ?_;refine nR (abj H A c l Zo W _) ?_;rintro _ _ ⟨rfl,rfl⟩;refine U ?_;exact qD results55 lv ⟨rfl,rfl⟩
def Rw(x:lD):List (Nat×lr):=((List.range x.kK.length).zip x.kK).filter λp=>p.2.done
def FL(x:Nat×lr):List (Nat×lr)->List (Nat×lr)
 |[]=>[x]
 |y::r=>if x.2.mark<y.2.mark then y::FL x r else x::y::r
def CL(x:lD):List (Nat×lr):=((Rw x).foldl (λa x=>FL x a) []).reverse
theorem Rx(x:q7):∀l:List q7,(sV x l).map (·.p)=FL x.p (l.map (·.p))
 |[]=>rfl
 |y::r=>by
  unfold sV;rw[bk];unfold FL;split;·rw[bk,Rx x r]
  ·rfl
theorem Ry:∀(l a:List q7),(l.foldl (λa x=>sV x a) a).map (·.p)=(l.map (·.p)).foldl (λa x=>FL x a) (a.map (·.p))
 |[],_=>rfl
 |x::l,a=>by rw[bU,Ry l,Rx];rfl
theorem Rz(x:q7):∀(l:List q7) (y:q7),y∈sV x l->y=x\/y∈l
 |[],y,h=>by simpa[sV] using h
 |z::r,y,h=>by
  unfold sV at h;split at h
  ·rcases aJ.1 h with h|h;·exact .inr (by rw[h];exact ay ..)
   ·(rcases Rz x r y h with h|h;·exact .inl h);·exact .inr (aI _ h)
  ·rcases aJ.1 h with h|h;·exact .inl h
   ·exact .inr h
theorem RA:∀(l a:List q7) (y:q7),y∈l.foldl (λa x=>sV x a) a->y∈l\/y∈a
 |[],_,y,h=>.inr h
 |x::l,a,y,h=>by
  rcases RA l _ y h with h|h;·exact .inl (aI _ h)
  ·rcases Rz x a y h with h|h;·exact .inl (by rw[h];exact ay ..)
   ·exact .inr h
theorem abl(x:lD){i:Nat}{t:lr}(h:x.kK[i]? =some t):(((List.range x.kK.length).zip x.kK).take (i+1)).filter (λp=>p.2.done)=(((List.range x.kK.length).zip x.kK).take i).filter (λp=>p.2.done)++if t.done then[(i,t)] else[]:=by
 have a:=(ax.1 h).1;have b:((List.range x.kK.length).zip x.kK)[i]? =some (i,t):=by rw[List.getElem?_zip_eq_some];exact⟨by simp[a],h⟩
 rw[aT,b,cm];congr 1;cases c:t.done<;>simp[c]
def OfV(x:lD)(H:kM)(v:Value):Prop:=∃(A:Option Addr) (c:Nat) (l:List q7),v=.slice A l.length c/\l.map (·.p)=CL x/\(l.length<=c/\c<=9223372036854775807)/\H.kn (Rd A 14 tW l)/\∀y∈l,y.m=y.p.2.lM.ll.length
theorem abn(H:kM)(x:lD)(ve z vs M B N O vt P:Value)(b:vU H x ve z vs M B N O vt P)(lc:x.kK.length<=19)(Y:∀t∈x.kK,t.lM.ll.length<=1000000/\t.lM.l9.length<=1000000):Fn prog 26 #[.agg (oz x ve z vs M B N O vt P).toArray] H (OfV x):=λW L=>by
 obtain⟨A0,kF,rfl,_,_⟩:=Zi b.kR.kP.es;obtain⟨A1,kG,rfl,_,_⟩:=Zi b.kR.kP.ns.sl;obtain⟨A2,kH,r2,rfl,_⟩:=Zi b.kR.l3;obtain⟨A3,kI,r3,rfl,_⟩:=Zi b.kR.lN;obtain⟨A4,kJ,rfl,_,_⟩:=Zi b.kW.1;obtain⟨A5,kL,rfl,_,_⟩:=Zi b.kW.2;obtain⟨A6,kO,rfl,_,_⟩:=Zi b.k6;obtain⟨A7,kQ,a,rfl,lg,kT,lL,kX⟩:=Zi b.kK;obtain⟨A8,kY,rfl,_,_⟩:=Zi b.Z;refine enter func26 ?_;refine U ?_;intro Q;refine U ?_;refine SC.oA 100 14 tW none ?_;refine mP (λm σ L'=>∃(i:Nat) (A:Option Addr) (c:Nat) (l:List q7) (C:kM),m=a.length-i/\i<=a.length/\H.le C/\l.map (·.p)=(((List.range x.kK.length).zip x.kK).take i).filter (λp=>p.2.done)/\(∀y∈l,y.m=y.p.2.lM.ll.length)/\l.length<=i/\
  L'=li 100 14 tW A c l::k4 Q 41 (oz x (.slice A0 x.kR.kP.es.length kF) (.slice A1 x.kR.kP.ns.length kG) (.slice A2 r2.length kH) (.slice A3 r3.length kI) (.slice A4 x.kW.1.length kJ) (.slice A5 x.kW.2.length kL) (.slice A6 x.k6.2.length kO) (.slice A7 a.length kQ) (.slice A8 x.Z.length kY))::fz C::L/\
  ml σ [(1,.pointer (some ⟨Q,0,none⟩)),(3,.slice A l.length c),(9,nN a.length),(10,nN i)]) a.length
  _ (s1 _) ⟨0,none,0,[],H,rfl,aR _,le_refl _,by simp,by simp,aA _,rfl,rfl,rfl,rfl,rfl,trivial⟩ ?_
 rintro m σ _ ⟨i,A,c,l,f,rfl,hi,d,j,u,lh,rfl,kZ⟩;obtain⟨lm,rfl⟩:=kZ.open;refine U ?_;refine mE rfl (λD=>?_) (λD=>?_)
 ·have k5:i<a.length:=by have:=am D;omega
  have R:i<x.kK.length:=by omega
  have S:x.kK[i]? =some x.kK[i]:=ad R;have v:=Y x.kK[i] (bv R);have e:=abl x S;obtain⟨row,k7⟩:∃s,a[i]? =some s:=⟨_,ad k5⟩;obtain⟨B,z,ve,T,⟨B1,d1,rfl,_⟩,E,F⟩:=kX i row _ k7 S;obtain⟨B2,d2,rfl,_⟩:=Zi E;obtain⟨B3,d3,rfl,_⟩:=Zi F;generalize x.kK[i]=t at*;obtain⟨val,lq,lu⟩:=row;dsimp only at T;subst T;have lx:=kT.up d;refine U ?_;intro g5;refine U ?_;cases V:t.done with
  |false=>rw[V] at e;simp only[aM,bH,aP] at e;refine U ?_;exact⟨a.length-(i+1),_,by omega,Zu,i+1,A,c,l,f,rfl,by omega,d,by rw[e];exact j,u,by omega,rfl,rfl,rfl,rfl,rfl,trivial⟩
  |true=>
   rw[V] at e;simp only[cc] at e;refine U ?_;cases X:t.mS with
   |true=>refine U ?_;refine nq [0,1,2,3,4,5,6,7,8,9,10,11,12,13,14,15] Zk Zk Zk Zk Zk (λ_ _ _ h=>h) ?_;refine U ?_;refine l4 (hp:=f1 (f1 (f1 f0))) (Ru f t.lM _ _ ⟨E.up d,F.up d⟩ v.1 v.2) ?_;rintro G _ k ⟨_,_,rfl,n⟩;obtain⟨o,k2,rfl,_,_⟩:=Zi n.ll;obtain⟨q,k3,rfl,_,_⟩:=Zi n.l9;refine U ?_;intro I;refine U ?_;refine td (l:=l) (news:=[(⟨(i,t),o,t.lM.ll.length,k2,q,t.lM.l9.length,k3⟩:q7)]) rfl rfl (oG (enc:=tW) (g:=I) (t:=100) (cs:=_) Zn (by simp[tW,Er,X,sv])) (λ_ _=>by(first|exact p0|exact p1 p0|exact p1 (p1 p0)|exact p1 (p1 (p1 p0))|exact p1 (p1 (p1 (p1 p0)))|exact p1 (p1 (p1 (p1 (p1 p0))))|exact p1 (p1 (p1 (p1 (p1 (p1 p0)))))|exact p1 (p1 (p1 (p1 (p1 (p1 (p1 p0)))))))) Zl Zm rfl (λ_ _ _=>Sub.of (bu _)) rfl rfl (λJ K=>?_);refine U ?_;exact⟨a.length-(i+1),_,by omega,Zu,i+1,J,K,l++[(⟨(i,t),o,t.lM.ll.length,k2,q,t.lM.l9.length,k3⟩:q7)],G,rfl,by omega,le_trans d k,by rw[e,bA,j];rfl,(λy r=>by(rcases aQ.1 r with h|h;·exact u y h);·rw[aE.1 h]),by rw[ak,dy];omega,rfl,rfl,rfl,rfl,rfl,trivial⟩
   |false=>refine U ?_;refine nq [0,1,2,3,4,5,6,7,8,9,10,11,12,13,14,15] Zk Zk Zk Zk Zk (λ_ _ _ h=>h) ?_;refine U ?_;refine l4 (hp:=f1 (f1 (f1 f0))) (Ru f t.lM _ _ ⟨E.up d,F.up d⟩ v.1 v.2) ?_;rintro G _ k ⟨_,_,rfl,n⟩;obtain⟨o,k2,rfl,_,_⟩:=Zi n.ll;obtain⟨q,k3,rfl,_,_⟩:=Zi n.l9;refine U ?_;intro I;refine U ?_;refine td (l:=l) (news:=[(⟨(i,t),o,t.lM.ll.length,k2,q,t.lM.l9.length,k3⟩:q7)]) rfl rfl (oG (enc:=tW) (g:=I) (t:=100) (cs:=_) Zn (by simp[tW,Er,X,sv])) (λ_ _=>by(first|exact p0|exact p1 p0|exact p1 (p1 p0)|exact p1 (p1 (p1 p0))|exact p1 (p1 (p1 (p1 p0)))|exact p1 (p1 (p1 (p1 (p1 p0))))|exact p1 (p1 (p1 (p1 (p1 (p1 p0)))))|exact p1 (p1 (p1 (p1 (p1 (p1 (p1 p0)))))))) Zl Zm rfl (λ_ _ _=>Sub.of (bu _)) rfl rfl (λJ K=>?_);refine U ?_;exact⟨a.length-(i+1),_,by omega,Zu,i+1,J,K,l++[(⟨(i,t),o,t.lM.ll.length,k2,q,t.lM.l9.length,k3⟩:q7)],G,rfl,by omega,le_trans d k,by rw[e,bA,j];rfl,(λy r=>by(rcases aQ.1 r with h|h;·exact u y h);·rw[aE.1 h]),by rw[ak,dy];omega,rfl,rfl,rfl,rfl,rfl,trivial⟩
 ·have k8:i=a.length:=by have:=av D;omega
  refine U ?_;refine SL.mL (L':=li 100 14 tW A c l::fz f::L) (λw hw=>hw.sublist Zu) ?_;refine nR (abk f A c l Zo W _) ?_;rintro _ _ ⟨rfl,rfl⟩;refine U ?_;refine kS ?_;have k:(tX l).reverse.length=l.length:=by rw[gF];unfold tX;rw[Lb];simp
  rw[<-k];exact lX (c1 c0) results26 Zt (λC hl k9=>by
   obtain⟨A',c',he,hb,hr⟩:=k9.sl m0;cases he;refine⟨_,_,(tX l).reverse,rfl,?_,hb,hr,λy r=>?_⟩;·rw[k8,lL,aY Zs] at j;unfold CL Rw tX;rw[List.map_reverse,Ry,j];rfl
   ·(rcases RA l [] y (eI.1 r) with h|h;·exact u y h);·cases h)
end
section
open Top
def y8:mo:=⟨2,[47,97],[],[],0⟩
def AQ:mo:=⟨7,[47],[],[],0⟩
def sJ(d:nh)(c:mo):nh:=((rL d c).map (·.1)).getD d
def CM(d:nh):nh:=sU (sJ (sJ d y8) AQ) (rS 0)
def y9(d:nh):nh:=sU (sJ (CM d) sT) (rS 0)
def Ie:Nat->Int:=λi=>0+((i%7:Nat):Int)
def RB(d:nh):Bool:=
 let b:=sU (sJ (sJ d y8) AQ) Ie;let a:=sU (sJ b sT) Ie
 (rL d y8).isSome&&decide (a.kN.kK.length<=19)&&tN a.kN&&match uN a [] with
 |none=>false
 |some x=>decide ((CL a.kN).length=3)&&decide ((sN x.kN.kR.kP.ns 0).length=1)&&(((CL a.kN)[1]?).map λp=>decide (p.2.lM.ll.length=1)&&decide (p.1=1)).getD false&&(((sN x.kN.kR.kP.ns 0)[0]?).map λt=>decide (t.path=[47,97])).getD false
def RC:Bool:=match xv 1 60 with
 |none=>false
 |some d=>RB d
theorem abo:RC=true:=by decide+kernel
structure Awk(d x:nh)(p:Nat×lr)(t:oI):Prop where
 new:xv 1 60=some d
 one:(rL d y8).isSome=true
 few:(y9 d).kN.kK.length<=19
 done:tN (y9 d).kN=true
 Cr:uN (y9 d) []=some x
 lL:(CL (y9 d).kN).length=3
 abr:(sN x.kN.kR.kP.ns 0).length=1
 gp:(CL (y9 d).kN)[1]? =some p
 ll:p.2.lM.ll.length=1
 num:p.1=1
 gt:(sN x.kN.kR.kP.ns 0)[0]? =some t
 path:t.path=[47,97]
theorem awk:∃d x p t,Awk d x p t:=by
 have h:=abo;unfold RC at h;cases e:xv 1 60 with
 |none=>rw[e] at h;cases h
 |some d=>
  rw[e] at h;dsimp only at h;unfold RB at h;have i:sU (sJ (sJ d y8) AQ) Ie=CM d:=by unfold CM;rw[Rq];rfl
  have j:sU (sJ (CM d) sT) Ie=y9 d:=by unfold y9;rw[Rq];rfl
  dsimp only at h;rw[i,j] at h;simp only[aF,bz] at h;obtain⟨⟨⟨k,l⟩,m⟩,b⟩:=h;cases f:uN (y9 d) [] with
  |none=>rw[f] at b;cases b
  |some x=>
   rw[f] at b;simp only[aF,bz] at b;obtain⟨⟨⟨n,o⟩,a⟩,c⟩:=b;cases hp:(CL (y9 d).kN)[1]? with
   |none=>rw[hp] at a;cases a
   |some p=>
    rw[hp] at a;simp only[aW,aN,aF,bz] at a;cases g:(sN x.kN.kR.kP.ns 0)[0]? with
    |none=>rw[g] at c;cases c
    |some t=>rw[g] at c;simp only[aW,aN,bz] at c;exact⟨d,x,p,t,e,k,l,m,f,n,o,hp,a.1,a.2,g,c⟩
theorem nL.sJ{S:Nat}{N:Int}{d:nh}(h:nL S N d){c:mo}(a:yd c):nL S (N+1) (sJ d c):=by
 unfold YtkbifmngmocjnaaGreatDoor.sJ;cases b:rL d c with
 |none=>exact h.up Zo
 |some y=>exact h.start a (show rL d c=some (y.1,y.2) from b)
end
section
open Top Proofs.Tryz
theorem abu(H:kM)(hT:Steps H):Fn prog 6 #[] H (λ_ r=>r=.bool true):=λW L=>by
 obtain⟨d,x,p,t,g⟩:=awk;obtain⟨hI,_⟩:=nL.new (S:=60) Zd Zd g.new;refine enter func6 ?_;refine U ?_;refine l4 (hp:=f0) (HE H hT 1 60 Zd Zd ⟨by decide,by decide⟩) ?_;rintro H1 _ lI ⟨v1,lJ,rfl,lK,lO,_⟩;have lS:lJ=0:=lK.2 (by rw[g.new];rfl);subst lS;obtain⟨ae,an,aeH,aeI,ah,aa,ag,aeJ,ao,al,aq,rfl,s⟩:=lO d g.new;obtain⟨aeK,aeL,rfl,-⟩:=Zi s.kN.kR.kP.es;obtain⟨aeM,aeN,rfl,-⟩:=Zi s.kN.kR.kP.ns.sl;obtain⟨aeO,aeP,aeQ,rfl,-⟩:=Zi s.kN.kR.l3;obtain⟨aeR,aeS,aeT,rfl,-⟩:=Zi s.kN.kR.lN;obtain⟨aeU,aeV,rfl,-⟩:=Zi s.kN.kW.1;obtain⟨aeW,aeX,rfl,-⟩:=Zi s.kN.kW.2;obtain⟨aeY,aeZ,rfl,-⟩:=Zi s.kN.k6;obtain⟨ae0,ae1,ae2,rfl,-⟩:=Zi s.kN.kK;obtain⟨ae3,ae4,rfl,-⟩:=Zi s.kN.Z;obtain⟨ae5,ae6,rfl,-⟩:=Zi s.lw.ld;obtain⟨ae7,ae8,rfl,-⟩:=Zi s.lw.waits;refine U ?_;intro z;refine U ?_;have lT:=hT.up lI;have lV:=hI.kN.lp;refine l4 (hp:=f1 f0) (FK H1 d y8 _ _ _ _ _ _ _ _ _ _ _ s ⟨lV.1,by omega⟩) ?_;rintro H2 _ lY ⟨_,n2,E,rfl,kY,⟨be,bn,bs,bw,bh,ba,bg,bt,bo,bl,bq,rfl,h⟩,_⟩;have l7:E=0:=kY.2 g.one;subst l7;have kZ:=hI.sJ (c:=y8) ⟨by decide,by decide,by decide⟩;have ma:=lT.up lY;change uz H2 (sJ d y8) _ _ _ _ _ _ _ _ _ _ _ at h;have e3:CM d=sU (sJ (sJ d y8) AQ) (rS 0):=rfl;generalize mb:sJ d y8=b at*;have mg:((rL d y8).map (·.1)).getD d=b:=mb;rw[mg];obtain⟨mh,mq,rfl,-⟩:=Zi h.kN.kR.kP.es;obtain⟨mF,mG,rfl,-⟩:=Zi h.kN.kR.kP.ns.sl;obtain⟨mH,mJ,mU,rfl,-⟩:=Zi h.kN.kR.l3;obtain⟨mW,na,ne,rfl,-⟩:=Zi h.kN.kR.lN;obtain⟨nl,nw,rfl,-⟩:=Zi h.kN.kW.1;obtain⟨nz,nB,rfl,-⟩:=Zi h.kN.kW.2;obtain⟨nC,nD,rfl,-⟩:=Zi h.kN.k6;obtain⟨nF,nH,nK,rfl,-⟩:=Zi h.kN.kK;obtain⟨nT,oc,rfl,-⟩:=Zi h.kN.Z;obtain⟨ou,ox,rfl,-⟩:=Zi h.lw.ld;obtain⟨oN,o6,rfl,-⟩:=Zi h.lw.waits;refine wL [(1,.pointer (some ⟨z,0,none⟩)),(2,nI 0),(16,.tuple #[.agg (nZ b (.slice mh b.kN.kR.kP.es.length mq) (.slice mF b.kN.kR.kP.ns.length mG) (.slice mH mU.length mJ) (.slice mW ne.length na) (.slice nl b.kN.kW.1.length nw) (.slice nz b.kN.kW.2.length nB) (.slice nC b.kN.k6.2.length nD) (.slice nF nK.length nH) (.slice nT b.kN.Z.length oc) (.slice ou b.lw.ln.ld.length ox) (.slice oN b.lw.waits.length o6)).toArray,nI n2,nI 0])] ⟨rfl,rfl,rfl,trivial⟩ (λC=>?_);refine U ?_;have o9:=kZ.kN.lp;refine l4 (hp:=f1 f0) (FK H2 b AQ _ _ _ _ _ _ _ _ _ _ _ h ⟨o9.1,by omega⟩) ?_;rintro H3 _ pm ⟨_,n3,F,rfl,_,⟨ce,cn,cs,cw,ch,ca,cg,ct,co,cl,cq,rfl,j⟩,_⟩;have k5:=kZ.sJ (c:=AQ) ⟨by decide,by decide,by decide⟩;have k7:=ma.up pm;change uz H3 (sJ b AQ) _ _ _ _ _ _ _ _ _ _ _ at j;generalize pr:sJ b AQ=v at*;have px:((rL b AQ).map (·.1)).getD b=v:=pr;rw[px];obtain⟨pC,qr,rfl,-⟩:=Zi j.kN.kR.kP.es;obtain⟨qy,qF,rfl,-⟩:=Zi j.kN.kR.kP.ns.sl;obtain⟨rn,rq,rD,rfl,-⟩:=Zi j.kN.kR.l3;obtain⟨rG,sL,tH,rfl,-⟩:=Zi j.kN.kR.lN;obtain⟨uW,u9,rfl,-⟩:=Zi j.kN.kW.1;obtain⟨vi,vA,rfl,-⟩:=Zi j.kN.kW.2;obtain⟨vK,vN,rfl,-⟩:=Zi j.kN.k6;obtain⟨xM,xZ,yF,rfl,-⟩:=Zi j.kN.kK;obtain⟨y7,zE,rfl,-⟩:=Zi j.kN.Z;obtain⟨zM,zT,rfl,-⟩:=Zi j.lw.ld;obtain⟨zU,zZ,rfl,-⟩:=Zi j.lw.waits;clear s h;refine wL [(1,.pointer (some ⟨z,0,none⟩)),(2,nI 0),(4,nI 0),(23,.tuple #[.agg (nZ v (.slice pC v.kN.kR.kP.es.length qr) (.slice qy v.kN.kR.kP.ns.length qF) (.slice rn rD.length rq) (.slice rG tH.length sL) (.slice uW v.kN.kW.1.length u9) (.slice vi v.kN.kW.2.length vA) (.slice vK v.kN.k6.2.length vN) (.slice xM yF.length xZ) (.slice y7 v.kN.Z.length zE) (.slice zM v.lw.ln.ld.length zT) (.slice zU v.lw.waits.length zZ)).toArray,nI n3,nI F])] ⟨rfl,rfl,rfl,rfl,trivial⟩ (λC=>?_);refine U ?_;refine l4 (hp:=f1 f0) (Ia H3 k7 v _ ⟨_,_,_,_,_,_,_,_,_,_,_,rfl,j⟩ k5 Zo 0 ⟨by decide,by decide⟩) ?_;rintro H4 _ Ad ⟨de,dn,ds,dw,dh,da,dg,dt,ae9,dl,dq,rfl,k⟩;have G:=(k5.quiet (rS 0)).2;have Ao:=k7.up Ad;have e5:y9 d=sU (sJ (CM d) sT) (rS 0):=rfl;rw[<-e3] at G k⊢;generalize CM d=n at*;obtain⟨Bw,BD,rfl,-⟩:=Zi k.kN.kR.kP.es;obtain⟨Ci,CG,rfl,-⟩:=Zi k.kN.kR.kP.ns.sl;obtain⟨CJ,Dg,DA,rfl,-⟩:=Zi k.kN.kR.l3;obtain⟨Ey,Ez,GD,rfl,-⟩:=Zi k.kN.kR.lN;obtain⟨HL,HQ,rfl,-⟩:=Zi k.kN.kW.1;obtain⟨HR,HS,rfl,-⟩:=Zi k.kN.kW.2;obtain⟨HT,Iq,rfl,-⟩:=Zi k.kN.k6;obtain⟨Ir,K1,K4,rfl,-⟩:=Zi k.kN.kK;obtain⟨OE,Ph,rfl,-⟩:=Zi k.kN.Z;obtain⟨Ra,Ri,rfl,-⟩:=Zi k.lw.ld;obtain⟨Ss,Su,rfl,-⟩:=Zi k.lw.waits;refine wL [(1,.pointer (some ⟨z,0,none⟩)),(2,nI 0),(4,nI 0),(28,.agg (nZ n (.slice Bw n.kN.kR.kP.es.length BD) (.slice Ci n.kN.kR.kP.ns.length CG) (.slice CJ DA.length Dg) (.slice Ey GD.length Ez) (.slice HL n.kN.kW.1.length HQ) (.slice HR n.kN.kW.2.length HS) (.slice HT n.kN.k6.2.length Iq) (.slice Ir K4.length K1) (.slice OE n.kN.Z.length Ph) (.slice Ra n.lw.ln.ld.length Ri) (.slice Ss n.lw.waits.length Su)).toArray)] ⟨rfl,rfl,rfl,rfl,trivial⟩ (λC=>?_);refine U ?_;have Sv:=G.kN.lp;refine l4 (hp:=f1 f0) (FK H4 n sT _ _ _ _ _ _ _ _ _ _ _ k ⟨Sv.1,by omega⟩) ?_;rintro H5 _ Sw ⟨_,n5,aaM,rfl,_,⟨ee,en,es,ew,eh,ea,eg,et,eo,el,eq,rfl,o⟩,_⟩;have k8:=G.sJ (c:=sT) ⟨by decide,by decide,by decide⟩;have k9:=Ao.up Sw;change uz H5 (sJ n sT) _ _ _ _ _ _ _ _ _ _ _ at o;generalize abc:sJ n sT=y at*;have abm:((rL n sT).map (·.1)).getD n=y:=abc;rw[abm];obtain⟨abp,abq,rfl,-⟩:=Zi o.kN.kR.kP.es;obtain⟨abs,abt,rfl,-⟩:=Zi o.kN.kR.kP.ns.sl;obtain⟨adE,adF,E,rfl,-⟩:=Zi o.kN.kR.l3;obtain⟨adG,adH,F,rfl,-⟩:=Zi o.kN.kR.lN;obtain⟨adI,adJ,rfl,-⟩:=Zi o.kN.kW.1;obtain⟨adK,adL,rfl,-⟩:=Zi o.kN.kW.2;obtain⟨adM,adN,rfl,-⟩:=Zi o.kN.k6;obtain⟨adO,adP,adQ,rfl,-⟩:=Zi o.kN.kK;obtain⟨adR,adS,rfl,-⟩:=Zi o.kN.Z;obtain⟨adT,adU,rfl,-⟩:=Zi o.lw.ld;obtain⟨adV,adW,rfl,-⟩:=Zi o.lw.waits;refine wL [(1,.pointer (some ⟨z,0,none⟩)),(2,nI 0),(4,nI 0),(32,.tuple #[.agg (nZ y (.slice abp y.kN.kR.kP.es.length abq) (.slice abs y.kN.kR.kP.ns.length abt) (.slice adE E.length adF) (.slice adG F.length adH) (.slice adI y.kN.kW.1.length adJ) (.slice adK y.kN.kW.2.length adL) (.slice adM y.kN.k6.2.length adN) (.slice adO adQ.length adP) (.slice adR y.kN.Z.length adS) (.slice adT y.lw.ln.ld.length adU) (.slice adV y.lw.waits.length adW)).toArray,nI n5,nI aaM])] ⟨rfl,rfl,rfl,rfl,trivial⟩ (λC=>?_);refine U ?_;refine l4 (hp:=f1 f0) (Ia H5 k9 y _ ⟨_,_,_,_,_,_,_,_,_,_,_,rfl,o⟩ k8 Zo 0 ⟨by decide,by decide⟩) ?_;rintro H6 _ adX ⟨fe,fn,fs,fw,fh,fa,fg,ft,fo,fl,fq,rfl,f⟩;have D:=(k8.quiet (rS 0)).2;have adY:=k9.up adX;rw[<-e5] at D f⊢;have adZ:=g.few;have ad1:=g.done;have I:=g.Cr;have ad2:=g.lL;have ad3:=g.gp;generalize y9 d=a at*;obtain⟨J,K,rfl,-⟩:=Zi f.kN.kR.kP.es;obtain⟨M,N,rfl,-⟩:=Zi f.kN.kR.kP.ns.sl;obtain⟨O,P,Q,rfl,-⟩:=Zi f.kN.kR.l3;obtain⟨R,T,V,rfl,-⟩:=Zi f.kN.kR.lN;obtain⟨X,Y,rfl,-⟩:=Zi f.kN.kW.1;obtain⟨kF,kG,rfl,-⟩:=Zi f.kN.kW.2;obtain⟨kH,kI,rfl,-⟩:=Zi f.kN.k6;obtain⟨kJ,kL,kO,rfl,-⟩:=Zi f.kN.kK;obtain⟨kQ,kT,rfl,-⟩:=Zi f.kN.Z;obtain⟨ad4,ad5,rfl,-⟩:=Zi f.lw.ld;obtain⟨ad6,ad7,rfl,-⟩:=Zi f.lw.waits;clear j k o;refine wL [(1,.pointer (some ⟨z,0,none⟩)),(2,nI 0),(4,nI 0),(37,.agg (nZ a (.slice J a.kN.kR.kP.es.length K) (.slice M a.kN.kR.kP.ns.length N) (.slice O Q.length P) (.slice R V.length T) (.slice X a.kN.kW.1.length Y) (.slice kF a.kN.kW.2.length kG) (.slice kH a.kN.k6.2.length kI) (.slice kJ kO.length kL) (.slice kQ a.kN.Z.length kT) (.slice ad4 a.lw.ln.ld.length ad5) (.slice ad6 a.lw.waits.length ad7)).toArray)] ⟨rfl,rfl,rfl,rfl,trivial⟩ (λC=>?_);refine U ?_;obtain⟨lc,lg,lh⟩:=D.Q4 Zo [];have lm:=D.kN.kR.mC;have afa:=D.B.ld;refine l4 (hp:=f1 f0) (QY H6 adY a _ _ _ _ _ _ _ _ _ _ _ f lm.1 lm.2 [] Zd Zo lc lg lh) ?_;rintro H7 _ lq ⟨vx,ad8,rfl,lu,lx,_⟩;have ad9:ad8=0:=lu.2 (by rw[I];rfl);subst ad9;obtain⟨ge,gn,gs,gw,gh,ga,gg,gt,go,gl,gq,rfl,u⟩:=lx x I;have ly:=D.Cr Zo Zo I;obtain⟨aea,aeb,rfl,-⟩:=Zi u.kN.kR.kP.es;obtain⟨aec,aed,rfl,-⟩:=Zi u.kN.kR.kP.ns.sl;obtain⟨aee,aef,aeg,rfl,-⟩:=Zi u.kN.kR.l3;obtain⟨aeh,aei,aej,rfl,-⟩:=Zi u.kN.kR.lN;obtain⟨aek,ael,rfl,-⟩:=Zi u.kN.kW.1;obtain⟨aem,aen,rfl,-⟩:=Zi u.kN.kW.2;obtain⟨aeo,aep,rfl,-⟩:=Zi u.kN.k6;obtain⟨aeq,aer,aes,rfl,-⟩:=Zi u.kN.kK;obtain⟨aet,aeu,rfl,-⟩:=Zi u.kN.Z;obtain⟨aev,aew,rfl,-⟩:=Zi u.lw.ld;obtain⟨aex,aey,rfl,-⟩:=Zi u.lw.waits;clear lc lg lh lx lu kY;refine wL [(1,.pointer (some ⟨z,0,none⟩)),(2,nI 0),(4,nI 0),(40,.tuple #[.agg (nZ x (.slice aea x.kN.kR.kP.es.length aeb) (.slice aec x.kN.kR.kP.ns.length aed) (.slice aee aeg.length aef) (.slice aeh aej.length aei) (.slice aek x.kN.kW.1.length ael) (.slice aem x.kN.kW.2.length aen) (.slice aeo x.kN.k6.2.length aep) (.slice aeq aes.length aer) (.slice aet x.kN.Z.length aeu) (.slice aev x.lw.ln.ld.length aew) (.slice aex x.lw.waits.length aey)).toArray,nI 0])] ⟨rfl,rfl,rfl,rfl,trivial⟩ (λC=>?_);refine U ?_;intro g5;refine U ?_;refine pN rfl (qP Zn) (oz a.kN (.slice J a.kN.kR.kP.es.length K) (.slice M a.kN.kR.kP.ns.length N) (.slice O Q.length P) (.slice R V.length T) (.slice X a.kN.kW.1.length Y) (.slice kF a.kN.kW.2.length kG) (.slice kH a.kN.k6.2.length kI) (.slice kJ kO.length kL) (.slice kQ a.kN.Z.length kT)) rfl rfl rfl rfl ?_;refine l4 (hp:=f1 (f1 f0)) (abn H7 a.kN _ _ _ _ _ _ _ _ _ (f.up lq).kN adZ (λt ht=>by have:=D.kN.kK t ht;exact⟨by have:=this.ll;omega,by have:=this.l9;omega⟩)) ?_;rintro H8 _ lz ⟨A,c,l,rfl,lB,hb,aez,aeA⟩;have aeB:l.length=3:=by rw[<-ad2,<-lB,bO]
 obtain⟨q,lE⟩:∃q,l[1]? =some q:=⟨_,ad Zo⟩;have lF:q.p=p:=by
  have:(l.map (·.p))[1]? =some q.p:=by rw[bP,lE];rfl
  rw[lB,ad3] at this;cases this;rfl
 have aeC:q.m=1:=by rw[aeA q (ar lE),lF];exact g.ll
 have aeD:q.p.1=1:=by rw[lF];exact g.num
 refine wL [(1,.pointer (some ⟨z,0,none⟩)),(2,nI 0),(4,nI 0),(5,.pointer (some ⟨g5,0,none⟩)),(6,nI 0),(45,.slice A l.length c)] ⟨rfl,rfl,rfl,rfl,rfl,rfl,trivial⟩ (λC=>?_);refine U ?_;refine l4 (hp:=f1 (f1 f0)) (J5 H8 _ x.kN.kR.kP.ns (u.kN.kR.kP.ns.up lz) (ly.kN.kR.w.yf ly.kN.kR.len) 0 ⟨by decide,by decide⟩) ?_;rintro H9 _ lG ⟨B,e,rfl,afb,aeE⟩;have aeF:=g.abr;have afc:=g.gt;have aeG:=g.path;have lH:=aez.up lG;generalize sN x.kN.kR.kP.ns 0=kX at*;refine wL [(1,.pointer (some ⟨z,0,none⟩)),(2,nI 0),(4,nI 0),(5,.pointer (some ⟨g5,0,none⟩)),(6,nI 0),(7,.slice A l.length c),(51,.slice B kX.length e)] ⟨rfl,rfl,rfl,rfl,rfl,rfl,rfl,trivial⟩ (λC=>?_);refine U ?_;rw[show((l.length:Int)==3)=true from by rw[aeB];rfl];refine U ?_;rw[show((kX.length:Int)==1)=true from by rw[aeF];rfl];refine U ?_;refine qO (xs:=l) (i:=1) rfl rfl Zo rfl (nS Zn lH (le_refl _)) rfl rfl ?_;refine U ?_;rw[show((q.m:Int)==1)=true from by rw[aeC];rfl];refine U ?_;refine qO (xs:=l) (i:=1) rfl rfl Zo rfl (nS Zn lH (le_refl _)) rfl rfl ?_;refine U ?_;rw[show((q.p.1:Int)==1)=true from by rw[aeD];rfl];refine U ?_;refine qO (xs:=kX) (i:=0) rfl rfl Zo rfl (nS Zn aeE (le_refl _)) rfl rfl ?_;refine U ?_;rw[show(t.path==[47,97])=true from by rw[aeG];rfl];refine U ?_;refine pN rfl (qP Zn) (oz a.kN (.slice J a.kN.kR.kP.es.length K) (.slice M a.kN.kR.kP.ns.length N) (.slice O Q.length P) (.slice R V.length T) (.slice X a.kN.kW.1.length Y) (.slice kF a.kN.kW.2.length kG) (.slice kH a.kN.k6.2.length kI) (.slice kJ kO.length kL) (.slice kQ a.kN.Z.length kT)) rfl rfl rfl rfl ?_;refine mi (FC H9 a.kN _ _ _ _ _ _ _ _ _ ((f.up lq).up (le_trans lz lG)).kN Zo) ?_;rw[ad1];refine U ?_;refine kS ?_;exact lX (c1 (c1 c0)) results6 Zt (λH' hl _=>rfl)
end
section
open Top Go.ChangeShapes Go.WideShapes Go.ChangeAt Go.RowKit Proofs.Tryz
def yy:List (String×DataW Unit):=[("gunwale/sums.steps",Rows.laid_gunwale_sums_steps),("unicode/utf8.acceptRanges",Rows.laid_unicode_utf8_acceptRanges),("unicode/utf8.first",Rows.laid_unicode_utf8_first)]
theorem Ld:Ic:=λH a=>abu H a
theorem abv{α:Type}{W:World}{A:Option Addr}{s:Nat}{enc:α->List Value}{l:List α}(h:oq W [pu W] (Rd A s enc l)):(pu W).kn (Rd A s enc l):=λw d e=>by
 obtain⟨b,off,f,g⟩:=h W (JV W) e;refine⟨b,off,f,λi j x u k m=>?_⟩;have a:=g i j x u k m;have c:b<W.heap.size:=by
  unfold World.cell? at a;simp only at a;split at a;·rename_i c;exact(aO.1 c).1
  ·cases a
 unfold pu at d;have n:w.heap[b]? =W.heap[b]?:=d b c;unfold World.cell? at a⊢;simp only at a⊢;rw[n];exact a
theorem Le{α:Type}{W:World}{s:Nat}{enc:α->List Value}{G:α->Prop}{x:G7 α}(h:DO W s enc G x):Sl s enc (pu W) (.slice x.A x.l.length x.c) x.l:=⟨x.A,x.c,rfl,⟨h.le,by have:=h.max;unfold maxLen at this;omega⟩,abv h.rd⟩
theorem Lh{f:FuncId}{args:Array Value}{W:World}(h:Fn prog f args (pu W) (λ_ r=>r=.bool true)):Calls prog f args W λe w=>e=.returned (.bool true)/\Mem W w [pu W]:=by refine fF ((h W []).out W (by rw[tG];exact JV W)) ?_;rintro e w ⟨v,L',rfl,a,b,hl,rfl,rfl⟩;refine⟨rfl,?_⟩;have:=Mem.fz (L:=[fz (pu W)]) hl p0 a;rw[tG] at this;exact this
end
end Go.Proofs.YtkbifmngmocjnaaGreatDoor
