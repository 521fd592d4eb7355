/- Proved here, packed: what the parts Mdll Cora Corb Corc Concatb Stga Stgb Stgc Stgd Stge Stgf Stgg Stgh Stgi prove (rules of the walk, contracts of functions, plain laws). Conditions: in each statement. -/
import Derived.Test.YtkbifmngmocjnaaGreatDoorPAU
namespace Go.Proofs.YtkbifmngmocjnaaGreatDoor
set_option maxRecDepth 100000
set_option maxHeartbeats 8000000
set_option linter.all false
section
open Top Proofs.Tryz
theorem ZO(s:Int)(l:List lQ)(x:lQ):((l++[x]).filter nj).foldl (λs o=>tj s o.tm) s=if nj x then tj ((l.filter nj).foldl (λs o=>tj s o.tm) s) x.tm else(l.filter nj).foldl (λs o=>tj s o.tm) s:=by
 rw[cm];by_cases h:nj x=true;·rw[aj h];simp[h]
 ·rw[ai h];simp[h]
theorem ZP(m:mQ)(l:List lQ)(H:kM)(ve h vs j k:Value)(a:sH H m ve h vs j)(p:xE m.kP 1000)(hl:Sl 7 nA H k l)(X:l.length<=1000)(q:∀o∈l,pn o):Fn prog 115 #[.agg (sG m ve h vs j).toArray,k] H (J9 (xQ m l)):=λW L=>by
 obtain⟨Y,kF,rfl,_,_⟩:=Zi a.kP.es;obtain⟨A1,kG,rfl,kH,kI⟩:=Zi a.kP.ns.sl;obtain⟨T,F,G,rfl,_⟩:=Zi a.lN;obtain⟨S,I,J,rfl,_⟩:=Zi a.l3;obtain⟨B,d,rfl,K,t⟩:=Zi hl;refine enter func115 ?_;refine U ?_;intro u;refine U ?_;intro v;refine U ?_;refine l4 (hp:=f1 (f1 f0)) (Vk H _ _ _ m.kP l a.kP ⟨by have:=p.len;omega,p.Z⟩ ⟨B,d,rfl,K,t⟩ Zo q) ?_;rintro M _ c ⟨_,n,rfl,u1,u2,rfl,f⟩;obtain⟨w,y,rfl,_,_⟩:=Zi f.es;obtain⟨z,A,rfl,_,_⟩:=Zi f.ns.sl;refine U ?_;refine rM (vs:=[.slice w (uH m.kP l).es.length y,.slice z (uH m.kP l).ns.length A]) rfl rfl rfl rfl rfl (p1 p0) rfl (λ_=>trivial) rfl ?_;refine U ?_;refine mP (λr σ L'=>∃(i:Nat),r=l.length-i/\i<=l.length/\
  L'=k4 v 31 (sG ⟨⟨[],[]⟩,0,0,[],[],0⟩ (.slice none 0 0) (.slice none 0 0) (.slice none 0 0) (.slice none 0 0))::k4 u 31 (sG ⟨uH m.kP l,((l.take i).filter nj).foldl (λs o=>tj s o.tm) m.seen,m.mC,m.l3,m.lN,m.next⟩ (.slice w (uH m.kP l).es.length y) (.slice z (uH m.kP l).ns.length A) (.slice S J.length I) (.slice T G.length F))::fz M::L/\
  ml σ [(2,.pointer (some ⟨u,0,none⟩)),(4,.pointer (some ⟨v,0,none⟩)),(15,.slice B l.length d),(16,nN l.length),(17,nN i)]) l.length
  _ (s1 _) ⟨0,by omega,by omega,rfl,rfl,rfl,rfl,rfl,rfl,trivial⟩ ?_
 rintro r σ _ ⟨i,rfl,hi,rfl,N⟩;obtain⟨kJ,rfl⟩:=N.open;have kL:=t.up c;refine U ?_;refine mE rfl (λg=>?_) (λg=>?_)
 ·have O:i<l.length:=by have:=am g;omega
  obtain⟨x,C⟩:∃s,l[i]? =some s:=⟨_,ad O⟩;have P:l.take (i+1)=l.take i++[x]:=by rw[aT,C];rfl
  have b:=ZO m.seen (l.take i) x;rw[<-P] at b;have Q:pn x:=q x (ar C);refine U ?_;intro g6;refine U ?_;refine md (Ck x Q W _) ?_;cases D:nj x with
  |false=>rw[D] at b;refine U ?_;rw[ai Zs] at b;rw[<-b];exact⟨l.length-(i+1),_,by omega,Zu,i+1,rfl,by omega,rfl,rfl,rfl,rfl,rfl,rfl,trivial⟩
  |true=>rw[D,aj rfl] at b;refine U ?_;intro kO;refine U ?_;refine sm (k1 k0) (λE R kQ=>L8 E _ _ [x.tm] (z8 (R _ m0) rfl ⟨aA _,by show 1<=_;decide⟩)) ?_;rw[show rb (((l.take i).filter nj).foldl (λs o=>tj s o.tm) m.seen) [x.tm]=((l.take (i+1)).filter nj).foldl (λs o=>tj s o.tm) m.seen from b.symm];refine U ?_;exact⟨l.length-(i+1),_,by omega,Zu,i+1,rfl,by omega,rfl,rfl,rfl,rfl,rfl,rfl,trivial⟩
 ·have V:i=l.length:=by have:=av g;omega
  subst V;rw[bf];refine U ?_;refine kS ?_;exact lX (c1 (c1 c0)) results115 (.agg (cs:=sG (xQ m l) _ _ _ _) inferInstance rfl m0 rfl) (λE e _=>⟨_,_,_,_,rfl,⟨f.up e,a.l3.up (le_trans c e) (AF (le_trans c e)),a.lN.up (le_trans c e) (zP (le_trans c e))⟩⟩)
def oz(x:lD)(ve a vs b c d e vt f:Value):List Value:=[ve,a,nI x.kR.seen,nI x.kR.mC,vs,b,nI x.kR.next,c,d,nI x.k6.1,e,vt,nI x.lp,f]
def Eg(H:kM)(r:List Value)(t:lr):Prop:=ui H r t
theorem s7{H a:kM}(hl:H.le a)(r:List Value)(t:lr)(h:Eg H r t):Eg a r t:=ui.up h hl
structure vU(H:kM)(x:lD)(ve a vs b c d e vt f:Value):Prop where
 kR:sH H x.kR ve a vs b
 kW:w9 H c d x.kW
 k6:Sl 2 np H e x.k6.2
 kK:Dl 18 Eg H vt x.kK
 Z:Sl 7 nA H f x.Z
theorem vU.up{H a:kM}{x:lD}{ve b vs c d e f vt g:Value}(h:vU H x ve b vs c d e f vt g)(hl:H.le a):vU a x ve b vs c d e f vt g:=⟨h.kR.up hl,h.kW.up hl,h.k6.up hl,h.kK.up hl (s7 hl),h.Z.up hl⟩
def Eh(x:lD)(H:kM)(r:Value):Prop:=∃ve a vs b c d e vt f,r=.agg (oz x ve a vs b c d e vt f).toArray/\vU H x ve a vs b c d e vt f
theorem KJ(H:kM)(r:Int)(d:0<=r)(e:r<=63):Fn prog 7 #[nI r] H (λb v=>∃v',v=.tuple #[v',nI 0]/\Eh (n4 r) b v'):=λW L=>by refine enter func7 ?_;refine U ?_;intro f;refine U ?_;refine l4 (hp:=f1 f0) (XQ H r) ?_;intro g v h c;rw[ai Zo] at c;obtain⟨_,rfl,ve,i,vs,j,rfl,a⟩:=c;obtain⟨k,l,rfl,_,_⟩:=Zi a.kP.es;obtain⟨m,n,rfl,_,_⟩:=Zi a.kP.ns.sl;obtain⟨T,o,p,rfl,_⟩:=Zi a.lN;obtain⟨S,q,s,rfl,_⟩:=Zi a.l3;refine U ?_;intro t;refine U ?_;refine kS ?_;exact m7 (c1 (c1 c0)) results7 (.agg (cs:=oz (n4 r) _ _ _ _ lR lR lR lR lR) inferInstance rfl (m1 m0) rfl) Zt (λb hl _=>⟨_,rfl,_,_,_,_,_,_,_,_,_,rfl,⟨a.up hl,⟨Sl.nil _ _ _,Sl.nil _ _ _⟩,Sl.nil _ _ _,Dl.nil _ _ _,Sl.nil _ _ _⟩⟩)
abbrev newRow(c:mo)(tm:Int):mB 18:=⟨qY (rz c tm) lR lR lR,rfl,aK.1 rfl⟩
def Hw(x:lD)(c:mo)(H:kM)(v:Value):Prop:=match rA x c with
 |none=>∃v',v=.tuple #[v',nI 0,nI 193]/\Eh x H v'
 |some (a,n)=>∃v',v=.tuple #[v',nI n,nI 0]/\Eh a H v'
theorem QB(H:kM)(x:lD)(c:mo)(ve o vs p q s u vt v:Value)(d:vU H x ve o vs p q s u vt v)(G:0<=x.lp/\x.lp<=1000000000):Fn prog 8 #[.agg (oz x ve o vs p q s u vt v).toArray,.agg (qL c).toArray] H (Hw x c):=λW L=>by
 obtain⟨I,J,rfl,_,_⟩:=Zi d.kR.kP.es;obtain⟨K,M,rfl,_,_⟩:=Zi d.kR.kP.ns.sl;obtain⟨N,O,P,rfl,_⟩:=Zi d.kR.lN;obtain⟨Q,R,S,rfl,_⟩:=Zi d.kR.l3;obtain⟨T,V,rfl,_,_⟩:=Zi d.kW.h;obtain⟨X,Y,rfl,_,_⟩:=Zi d.kW.w;obtain⟨A6,kF,rfl,_,_⟩:=Zi d.k6;obtain⟨y,z,e,rfl,kG,A,lL,B⟩:=Zi d.kK;obtain⟨A8,kH,rfl,_,_⟩:=Zi d.Z;have f:rA x c=if x.kK.length>=40 then none else some (({x with lp:=x.lp+1,kK:=x.kK++[rz c (x.lp+1)]}:lD),(x.kK.length:Int)):=rfl;refine enter func8 ?_;unfold Hw;refine U ?_;intro g2;refine U ?_;intro g3;refine U ?_;intro g4;refine U ?_;by_cases C:40<=x.kK.length;·rw[show decide ((40:Int)<=(e.length:Int))=true from Zq];rw[aj C] at f;refine U ?_;refine kS ?_;exact tg (c1 (c1 (c1 c0))) results8 (.agg (cs:=oz x _ _ _ _ _ _ _ _ _) inferInstance rfl m0 rfl) Zt Zt (λD hl _=>by rw[f];exact⟨_,rfl,_,_,_,_,_,_,_,_,_,rfl,d.up hl⟩)
 ·rw[show decide ((40:Int)<=(e.length:Int))=false from Zq];rw[ai C] at f;refine U ?_;refine qN [] (lC.Z [0,1,3,4,5,6] (.o8 (lC.Z [2,7,8,9,10] .mZ) (lC.Z [7,2,8,9,10] .mZ))) Zk Zk Zk Zk (λ_ _ _ h=>h) (.of Zu) ?_;refine mM _ _ _ _ Zk ?_;refine U ?_;refine ta ?_ ?_;·refine mM _ _ _ _ Zk ?_;refine ov (I0 mB.val H y z e Zo A) ?_;rintro _ _ ⟨E,F,rfl,rfl⟩;simp only[aD];refine U ?_;intro n;refine U ?_;refine td (l:=e) (news:=[newRow c (x.lp+1)]) rfl rfl (oG (enc:=mB.val) (g:=n) (t:=64) (cs:=qY (rz c (x.lp+1)) lR lR lR) Zn rfl) (λ_ _=>by(first|exact p0|exact p1 p0|exact p1 (p1 p0)|exact p1 (p1 (p1 p0))|exact p1 (p1 (p1 (p1 p0)))|exact p1 (p1 (p1 (p1 (p1 p0))))|exact p1 (p1 (p1 (p1 (p1 (p1 p0)))))|exact p1 (p1 (p1 (p1 (p1 (p1 (p1 p0)))))))) Zl Zm rfl (λ_ _ _=>Sub.of (bu _)) rfl rfl (λj k=>?_);refine U ?_;refine kS ?_;exact tg (c1 (c1 (c1 (c1 (c1 c0))))) results8 (.agg (cs:=oz ({x with lp:=x.lp+1,kK:=x.kK++[rz c (x.lp+1)]}:lD) _ _ _ _ _ _ _ (.slice j (e++[newRow c (x.lp+1)]).length k) _) inferInstance rfl (m1 (m1 m0)) rfl) Zt Zt (λD hl m=>by rw[f];exact⟨_,by rw[<-lL]<;>rfl,_,_,_,_,_,_,_,_,_,rfl,⟨d.kR.up hl,d.kW.up hl,d.k6.up hl,⟨j,k,e++[newRow c (x.lp+1)],rfl,m.cap (m1 m0),ra (m.kn _ (m1 m0)),by simp[lL],Dl.push lL (λi r x a b=>s7 hl _ _ (B i r x a b)) ⟨_,_,_,rfl,Sl.nil _ _ _,Sl.nil _ _ _,Sl.nil _ _ _⟩⟩,d.Z.up hl⟩⟩)
  ·refine mM _ _ _ _ Zk ?_;refine U ?_;intro n;refine U ?_;refine ov (I0 mB.val H y z e Zo A) ?_;rintro _ _ ⟨E,F,rfl,rfl⟩;simp only[aD];refine U ?_;refine td (l:=e) (news:=[newRow c (x.lp+1)]) rfl rfl (oG (enc:=mB.val) (g:=n) (t:=64) (cs:=qY (rz c (x.lp+1)) lR lR lR) Zn rfl) (λ_ _=>by(first|exact p0|exact p1 p0|exact p1 (p1 p0)|exact p1 (p1 (p1 p0))|exact p1 (p1 (p1 (p1 p0)))|exact p1 (p1 (p1 (p1 (p1 p0))))|exact p1 (p1 (p1 (p1 (p1 (p1 p0)))))|exact p1 (p1 (p1 (p1 (p1 (p1 (p1 p0)))))))) Zl Zm rfl (λ_ _ _=>Sub.of (bu _)) rfl rfl (λj k=>?_);refine U ?_;refine kS ?_;exact tg (c1 (c1 (c1 (c1 (c1 c0))))) results8 (.agg (cs:=oz ({x with lp:=x.lp+1,kK:=x.kK++[rz c (x.lp+1)]}:lD) _ _ _ _ _ _ _ (.slice j (e++[newRow c (x.lp+1)]).length k) _) inferInstance rfl (m1 (m1 m0)) rfl) Zt Zt (λD hl m=>by rw[f];exact⟨_,by rw[<-lL]<;>rfl,_,_,_,_,_,_,_,_,_,rfl,⟨d.kR.up hl,d.kW.up hl,d.k6.up hl,⟨j,k,e++[newRow c (x.lp+1)],rfl,m.cap m0,ra (m.kn _ m0),by simp[lL],Dl.push lL (λi r x a b=>s7 hl _ _ (B i r x a b)) ⟨_,_,_,rfl,Sl.nil _ _ _,Sl.nil _ _ _,Sl.nil _ _ _⟩⟩,d.Z.up hl⟩⟩)
def p7(l:List Nat):List Int:=l.map Int.ofNat
theorem ZQ(x:lD)(i:Nat):(List.range (i+1)).filter (uJ x)=if uJ x i then(List.range i).filter (uJ x)++[i] else(List.range i).filter (uJ x):=by
 rw[dz,cm];by_cases h:uJ x i=true;·rw[aj h];simp[h]
 ·rw[ai h];simp[h]
theorem KK(H:kM)(x:lD)(ve q vs E u F G vt I:Value)(c:vU H x ve q vs E u F G vt I)(kZ:x.kK.length<=1000):Fn prog 19 #[.agg (oz x ve q vs E u F G vt I).toArray] H (λJ r=>Sl 1 oY J r (p7 (pa x))):=λW L=>by
 obtain⟨R,S,rfl,_,_⟩:=Zi c.kR.kP.es;obtain⟨T,V,rfl,_,_⟩:=Zi c.kR.kP.ns.sl;obtain⟨X,Y,r2,rfl,_⟩:=Zi c.kR.lN;obtain⟨A3,kF,r3,rfl,_⟩:=Zi c.kR.l3;obtain⟨A4,kG,rfl,_,_⟩:=Zi c.kW.h;obtain⟨A5,kH,rfl,_,_⟩:=Zi c.kW.w;obtain⟨A6,kI,rfl,_,_⟩:=Zi c.k6;obtain⟨K,M,a,rfl,k5,k7,lL,kJ⟩:=Zi c.kK;obtain⟨A8,kL,rfl,_,_⟩:=Zi c.Z;refine enter func19 ?_;refine U ?_;intro N;refine U ?_;refine SC.oA 3 1 oY none ?_;refine mP (λr σ L'=>∃(i:Nat) (B:Option Addr) (d:Nat) (b:List Int),r=a.length-i/\i<=a.length/\b=p7 ((List.range i).filter (uJ x))/\
  L'=li 3 1 oY B d b::k4 N 41 (oz x (.slice R x.kR.kP.es.length S) (.slice T x.kR.kP.ns.length V) (.slice A3 r3.length kF) (.slice X r2.length Y) (.slice A4 x.kW.1.length kG) (.slice A5 x.kW.2.length kH) (.slice A6 x.k6.2.length kI) (.slice K a.length M) (.slice A8 x.Z.length kL))::fz H::L/\
  ml σ [(1,.pointer (some ⟨N,0,none⟩)),(3,.slice B b.length d),(12,.slice K a.length M),(13,nN a.length),(14,nN i)]) a.length
  _ (s1 _) ⟨0,none,0,[],by omega,by omega,rfl,rfl,rfl,rfl,rfl,rfl,rfl,trivial⟩ ?_
 rintro r σ _ ⟨i,B,d,b,rfl,hi,f,rfl,kO⟩;obtain⟨k8,rfl⟩:=kO.open;have k9:b.length<=i:=by rw[f];unfold p7;rw[bO];have:=bG (uJ x) (List.range i);rw[fR] at this;exact this
 refine U ?_;refine mE rfl (λv=>?_) (λv=>?_)
 ·have kQ:i<a.length:=by have:=am v;omega
  have kT:i<x.kK.length:=by omega
  have O:x.kK[i]? =some x.kK[i]:=ad kT;obtain⟨row,kX⟩:∃s,a[i]? =some s:=⟨_,ad kQ⟩;obtain⟨u,q,ve,P,⟨B1,d1,rfl,_⟩,⟨B2,d2,rfl,_⟩,⟨B3,d3,rfl,_⟩⟩:=kJ i row _ kX O;have k:uJ x i=(!x.kK[i].mS&&(pl x.kW i).isNone&&(!(oU x.k6 i)||(match x.k6.2 with
   |[]=>false
   |w::_=>w.1==(i:Int)))):=by unfold uJ;rw[O];rfl
  have e:=ZQ x i;generalize x.kK[i]=t at*;obtain⟨val,lc,lg⟩:=row;dsimp only at P;subst P;refine U ?_;intro g5;refine U ?_;cases m:t.mS with
  |true=>
   have j:uJ x i=false:=by rw[k];simp[m]
   rw[ai (by rw[j];simp)] at e;refine U ?_;exact⟨a.length-(i+1),_,by omega,Zu,i+1,B,d,b,rfl,by omega,by rw[e];exact f,rfl,rfl,rfl,rfl,rfl,rfl,trivial⟩
  |false=>
   refine U ?_;refine mi (Vx H _ _ x.kW c.kW (i:Int)) ?_;cases n:pl x.kW (i:Int) with
   |some lk=>(have j:uJ x i=false:=by rw[k];simp[m,n]);rw[ai (by rw[j];simp)] at e;refine U ?_;exact⟨a.length-(i+1),_,by omega,Zu,i+1,B,d,b,rfl,by omega,by rw[e];exact f,rfl,rfl,rfl,rfl,rfl,rfl,trivial⟩
   |none=>
    refine U ?_;refine mi (NS H _ x.k6 ⟨_,rfl,c.k6⟩ (i:Int)) ?_;cases o:oU x.k6 (i:Int) with
    |false=>(have y:uJ x i=true:=by rw[k];simp[m,n,o]);rw[aj y] at e;refine U ?_;intro z;refine U ?_;refine ap (l:=b) (news:=[(i:Int)]) (oG (g:=z) (t:=3) (cs:=[nI (i:Int)]) Zn rfl) Zl (λA C=>?_);refine U ?_;exact⟨a.length-(i+1),_,by omega,Zu,i+1,A,C,b++[(i:Int)],rfl,by omega,by rw[e,f];unfold p7;rw[bA];rfl,rfl,rfl,rfl,rfl,rfl,rfl,trivial⟩
    |true=>
     refine U ?_;refine mi (VC H _ x.k6 ⟨_,rfl,c.k6⟩) ?_;unfold Jq NT;cases D:x.k6.2 with
     |nil=>(have j:uJ x i=false:=by rw[k];simp[m,n,o,D]);rw[ai (by rw[j];simp)] at e;refine U ?_;exact⟨a.length-(i+1),_,by omega,Zu,i+1,B,d,b,rfl,by omega,by rw[e];exact f,rfl,rfl,rfl,rfl,rfl,rfl,trivial⟩
     |cons w ws=>(refine U ?_;by_cases p:w.1=(i:Int);·(rw[show(w.1 != (i:Int))=false from by simpa using p];have y:uJ x i=true:=by rw[k];simp[m,n,o,D,p]);rw[aj y] at e;refine U ?_;intro z;refine U ?_;refine ap (l:=b) (news:=[(i:Int)]) (oG (g:=z) (t:=3) (cs:=[nI (i:Int)]) Zn rfl) Zl (λA C=>?_);refine U ?_;exact⟨a.length-(i+1),_,by omega,Zu,i+1,A,C,b++[(i:Int)],rfl,by omega,by rw[e,f];unfold p7;rw[bA];rfl,rfl,rfl,rfl,rfl,rfl,rfl,trivial⟩);·(rw[show(w.1 != (i:Int))=true from by simpa using p];have j:uJ x i=false:=by rw[k];simp[m,n,o,D,p]);rw[ai (by rw[j];simp)] at e;refine U ?_;exact⟨a.length-(i+1),_,by omega,Zu,i+1,B,d,b,rfl,by omega,by rw[e];exact f,rfl,rfl,rfl,rfl,rfl,rfl,trivial⟩
 ·have Q:i=a.length:=by have:=av v;omega
  refine U ?_;refine kS ?_;exact lX (c1 (c1 c0)) results19 Zt (λJ hl kY=>by have:=kY.sl (enc:=oY) (l:=b) m0;rw[f,Q,lL] at this;rw[f,Q,lL];exact this)
def Hx(r:mB 18):Bool:=match(r.val[8]?:Option Value) with
 |some (Value.bool b)=>!b
 |_=>false
theorem QC{H:kM}(r:mB 18)(t:lr)(h:Eg H r.val t):Hx r=!t.mS:=by obtain⟨a,b,c,h,_⟩:=h;unfold Hx;rw[h];rfl
theorem ZR(H:kM)(r:mB 18)(t:lr)(h:Eg H r.val t):Rf prog 44 #[.agg r.val.toArray] H (.bool (Hx r)):=λW L=>by have a:=QC r t h;obtain⟨_,_,_,b,⟨c,d,rfl,_⟩,⟨e,f,rfl,_⟩,⟨g,i,rfl,_⟩⟩:=h;refine enter func44 ?_;rw[b];refine U ?_;intro j;refine U ?_;refine kS ?_;exact lj results44 Zt lv ⟨by rw[a]<;>rfl,rfl⟩
theorem ZS(x:lD):tN x=!(x.kK.any λt=>!t.mS):=by unfold tN;rw[List.all_eq_not_any_not]
theorem FC(H:kM)(x:lD)(ve b vs c d e f vt g:Value)(a:vU H x ve b vs c d e f vt g)(s:x.kK.length<=1000):Rf prog 18 #[.agg (oz x ve b vs c d e f vt g).toArray] H (.bool (tN x)):=λW L=>by obtain⟨u,v,rfl,_,_⟩:=Zi a.kR.kP.es;obtain⟨y,z,rfl,_,_⟩:=Zi a.kR.kP.ns.sl;obtain⟨A,B,C,rfl,_⟩:=Zi a.kR.lN;obtain⟨D,E,F,rfl,_⟩:=Zi a.kR.l3;obtain⟨G,I,rfl,_,_⟩:=Zi a.kW.h;obtain⟨J,K,rfl,_,_⟩:=Zi a.kW.w;obtain⟨M,N,rfl,_,_⟩:=Zi a.k6;obtain⟨j,k,l,rfl,O,m,lL,n⟩:=Zi a.kK;obtain⟨P,Q,rfl,_,_⟩:=Zi a.Z;have i:=rm.of lL n;refine enter func18 ?_;refine U ?_;intro R;refine U ?_;refine mi (T6 mB.val H j k l Zo m 44 [] Hx (λr o=>by obtain⟨t,_,p⟩:=i.mem r o;exact ZR H r t p)) ?_;rw[i.any (q:=λt=>!t.mS) QC];refine U ?_;refine kS ?_;exact lj results18 Zt lv ⟨by rw[ZS]<;>rfl,rfl⟩
def QD(o:Option (Nat×Bool)):Value:=match o with
 |some p=>.tuple #[nN p.1,.bool p.2,.bool true]
 |none=>.tuple #[nI 0,.bool false,.bool false]
theorem ZT(x:lD)(p:Int):tM x p=if pa x=[] then none else some ((pa x).getD (B9 p (pa x).length).toNat 0,oU x.k6 ((pa x).getD (B9 p (pa x).length).toNat 0:Nat)):=rfl
theorem QE(H:kM)(x:lD)(ve j vs l m n o vt q:Value)(e:vU H x ve j vs l m n o vt q)(t:x.kK.length<=1000)(p:Int)(hp:od p):Fn prog 30 #[.agg (oz x ve j vs l m n o vt q).toArray,nI p] H (λ_ r=>r=QD (tM x p)):=λW L=>by
 have u:=e;obtain⟨E,F,rfl,_,_⟩:=Zi e.kR.kP.es;obtain⟨G,I,rfl,_,_⟩:=Zi e.kR.kP.ns.sl;obtain⟨J,K,M,rfl,_⟩:=Zi e.kR.lN;obtain⟨N,O,P,rfl,_⟩:=Zi e.kR.l3;obtain⟨Q,R,rfl,_,_⟩:=Zi e.kW.h;obtain⟨S,T,rfl,_,_⟩:=Zi e.kW.w;obtain⟨V,X,rfl,_,_⟩:=Zi e.k6;obtain⟨Y,kF,kG,rfl,kH,kI,lL,kJ⟩:=Zi e.kK;obtain⟨A8,kL,rfl,_,_⟩:=Zi e.Z;have f:=ZT x p;have kO:(pa x).length<=x.kK.length:=by have:=bG (uJ x) (List.range x.kK.length);rw[fR] at this;exact this
 refine enter func30 ?_;refine U ?_;intro g2;refine U ?_;refine l4 (hp:=f1 f0) (KK H x _ _ _ _ _ _ _ _ _ u t) ?_;rintro v _ y ⟨B,d,rfl,hd,hq⟩;generalize pa x=c at*;have g:(p7 c).length=c.length:=by unfold p7;simp
 refine U ?_;cases c with
 |nil=>rw[aj rfl] at f;refine U ?_;refine kS ?_;exact tg (c1 c0) results30 Zt Zt Zt (λ_ _ _=>by rw[f]<;>rfl)
 |cons a0 A=>
  rw[ai Zs] at f;generalize C:a0::A=c at*;have kQ:0<c.length:=by rw[<-C];simp
  have i:((p7 c).length:Int)≠0:=by rw[g];omega
  rw[show(((p7 c).length:Int)==0)=false from by simpa using i];refine U ?_;have kT:=iY p (show(0:Int)<((p7 c).length:Int) by rw[g];omega);have kX:=kx p (show(0:Int)<((p7 c).length:Int) by rw[g];omega);refine z6 (a:=p) (b:=((p7 c).length:Int)) rfl rfl i rfl rfl ?_;refine U ?_;refine z6 (a:=p.tmod ((p7 c).length:Int)+((p7 c).length:Int)) (b:=((p7 c).length:Int)) rfl rfl i rfl rfl ?_;refine U ?_;have kY:=iY (p.tmod ((p7 c).length:Int)+((p7 c).length:Int)) (show(0:Int)<((p7 c).length:Int) by rw[g];omega);have kZ:0<=(p.tmod ((p7 c).length:Int)+((p7 c).length:Int)).tmod ((p7 c).length:Int):=jD _ Zo;have s:B9 p (c.length:Int)=(p.tmod ((p7 c).length:Int)+((p7 c).length:Int)).tmod ((p7 c).length:Int):=by rw[g];rfl
  rw[s] at f;clear s;generalize(p.tmod ((p7 c).length:Int)+((p7 c).length:Int)).tmod ((p7 c).length:Int)=z at*;obtain⟨k,rfl⟩:∃k:Nat,z=(k:Int):=⟨z.toNat,by omega⟩;rw[bC] at f;have k5:k<(p7 c).length:=by omega
  have D:k<c.length:=by omega
  have k7:(p7 c)[k]? =some ((c.getD k 0:Nat):Int):=by unfold p7;rw[bP,cF,ad D];rfl
  generalize c.getD k 0=kU at*;have k8:(oY (kU:Int))[0]? =some (nI (kU:Int)):=rfl;refine U ?_;refine mi (NS v _ x.k6 ⟨_,rfl,e.k6.up y⟩ (kU:Int)) ?_;refine U ?_;refine kS ?_;exact tg (c1 c0) results30 Zt Zt Zt (λ_ _ _=>by rw[f]<;>rfl)
theorem ZU(N:Nat)(e:N<=1000000)(W:World)(L:List kM):m3 prog W 213 #[.slice none 0 0,nN N] L (λv L'=>∃A c,v=.slice A 0 c/\L'=li 201 7 nA A c ([]:List lQ)::L):=by
 refine enter func213 ?_;refine U ?_;rw[show decide ((N:Int)<0)=false from Zq];refine U ?_;refine Ht (A:=none) (l:=0) (c:=0) rfl rfl rfl ?_;refine U ?_;rw[show(N:Int)-(((0:Nat):Int)-((0:Nat):Int))=(N:Int) from by omega];rcases cM N with rfl|a
 ·rw[show decide ((0:Int)<((0:Nat):Int))=false from rfl];refine U ?_;refine kS ?_;exact lj results213 Zt (L':=li 201 7 nA none 0 ([]:List lQ)::L) (λw b=>b.oA 201 7 nA none) ⟨none,0,rfl,rfl⟩
 rw[show decide ((0:Int)<(N:Int))=true from Zq];refine U ?_;refine Ht (A:=none) (l:=0) (c:=0) rfl rfl rfl ?_;refine U ?_;refine rW (A:=none) (m:=0) (c:=0) (h:=0) rfl rfl (aA _) rfl rfl ?_;refine U ?_;refine Qv nA (N:=N) (k:=.i64) (kn:=.i64) rfl rfl Zk a Zo Zo rfl rfl (λg d f=>?_);refine U ?_;refine rW (A:=some ⟨g,0,none⟩) (m:=N) (c:=d) (h:=0) rfl rfl (aR _) rfl rfl ?_;refine U ?_;refine kS ?_;exact lj results213 Zt lv ⟨_,_,rfl,rfl⟩
structure Ei where
 A:Option Addr
 c:Nat
 l:List lQ
def FD(s:Ei):List Value:=[.slice s.A s.l.length s.c]
instance:m6 FD 1:=⟨λ_=>rfl,λx v a=>by simp[FD] at a;subst a;rfl⟩
def uS(a:List Ei):List lQ:=a.flatMap (·.l)
theorem QF(a:List Ei)(k:Nat)(s:Ei)(h:a[k]? =some s):uS (a.take (k+1))=uS (a.take k)++s.l:=by unfold uS;rw[aT,h];simp
theorem KL(a:List Ei)(k:Nat):(uS (a.take k)).length<=(uS a).length:=by
 unfold uS;conv=>rhs;rw[<-bT k a]
 simp only[bD,ak];omega
theorem ZV(H:kM)(B:Option Addr)(d:Nat)(a:List Ei)(hl:a.length<=1000000)(o:(uS a).length<=1000000)(C:H.kn (Rd B 1 FD a))(p:∀s∈a,H.kn (Rd s.A 7 nA s.l)):Mk prog 136 #[.slice B a.length d] H (λes v=>∃A c,es=[li 201 7 nA A c (uS a)]/\v=.slice A (uS a).length c):=λW L=>by
 refine enter func136 ?_;refine U ?_;refine mP (λr σ L'=>fz H::L=L'/\∃k:Nat,k<=a.length/\r=a.length-k/\ml σ [(0,.slice B a.length d),(3,nN (uS (a.take k)).length),(9,.slice B a.length d),(10,nN a.length),(11,nN k)]) a.length
  _ (s1 _) ⟨rfl,0,by omega,by omega,⟨rfl,rfl,rfl,rfl,rfl,trivial⟩⟩ ?_
 rintro r σ _ ⟨rfl,k,q,rfl,g⟩;obtain⟨n,rfl⟩:=g.open;have t:=KL a k;refine U ?_;refine mE rfl (λb=>?_) (λb=>?_)
 ·have i:k<a.length:=by have:=am b;omega
  obtain⟨s,h⟩:∃e,a[k]? =some e:=⟨_,ad i⟩;have u:(FD s)[0]? =some (.slice s.A s.l.length s.c):=rfl;have f:=QF a k s h;have j:=KL a (k+1);rw[f,ak] at j;refine U ?_;rw[show decide ((((uS (a.take k)).length:Nat):Int)+((s.l.length:Nat):Int)<0)=false from Zq];refine U ?_;refine⟨a.length-(k+1),_,by omega,s1 _,rfl,k+1,by omega,rfl,⟨rfl,?_,rfl,rfl,rfl,trivial⟩⟩;rw[f,ak];rfl
 ·have m:k=a.length:=by have:=av b;omega
  subst m;rw[bf];refine U ?_;refine nR (ZU (uS a).length o W (fz H::L)) ?_;rintro _ _ ⟨w,x,rfl,rfl⟩;refine U ?_;refine mP (λr σ L'=>∃(k:Nat) (A:Option Addr) (c:Nat),k<=a.length/\r=a.length-k/\L'=li 201 7 nA A c (uS (a.take k))::fz H::L/\
   ml σ [(0,.slice B a.length d),(6,.slice A (uS (a.take k)).length c),(25,.slice B a.length d),(26,nN a.length),(27,nN k)]) a.length
   _ (s1 _) ⟨0,w,x,by omega,by omega,rfl,⟨rfl,rfl,rfl,rfl,rfl,trivial⟩⟩ ?_
  clear b t g n;rintro r σ _ ⟨k,A,c,q,rfl,rfl,g⟩;obtain⟨n,rfl⟩:=g.open;refine U ?_;refine mE rfl (λb=>?_) (λb=>?_)
  ·have i:k<a.length:=by have:=am b;omega
   obtain⟨s,h⟩:∃e,a[k]? =some e:=⟨_,ad i⟩;have u:(FD s)[0]? =some (.slice s.A s.l.length s.c):=rfl;have f:=QF a k s h;have j:=KL a (k+1);rw[f,ak] at j;refine U ?_;refine ap (l:=uS (a.take k)) (news:=s.l) (nS Zn (p s (ar h)) (le_refl _)) Zo (λy z=>?_);rw[<-f];refine U ?_;exact⟨a.length-(k+1),_,by omega,Zu,k+1,y,z,by omega,rfl,rfl,⟨rfl,rfl,rfl,rfl,rfl,trivial⟩⟩
  ·have m:k=a.length:=by have:=av b;omega
   subst m;rw[bf];refine U ?_;refine kS ?_;exact lj results136 Zt lv ⟨[_],rfl,_,_,rfl,rfl⟩
structure sh(H:kM)(x:lD)(ve b vs c d e f g:Value)(a:List (mB 18)):Prop where
 kR:sH H x.kR ve b vs c
 kW:w9 H d e x.kW
 k6:Sl 2 np H f x.k6.2
 Z:Sl 7 nA H g x.Z
 len:a.length=x.kK.length
 kK:∀(i:Nat) (r:mB 18) (t:lr),a[i]? =some r->x.kK[i]? =some t->Eg H r.val t
theorem sh.up{H c:kM}{x:lD}{ve d vs e f g j k:Value}{l:List (mB 18)}(h:sh H x ve d vs e f g j k l)(hl:H.le c):sh c x ve d vs e f g j k l:=⟨h.kR.up hl,h.kW.up hl,h.k6.up hl,h.Z.up hl,h.len,λi r t a b=>s7 hl _ _ (h.kK i r t a b)⟩
def rQ(x:lD)(kU:Nat)(u:Int×Int)(ve a vs b c d e vt f:Value):List Value:=[ve,a,nI x.kR.seen,nI x.kR.mC,vs,b,nI x.kR.next,c,d,nI x.k6.1,e,vt,nI x.lp,f,nN kU,nI u.1,nI u.2]
def m4(gs:Nat)(x:lD)(kU:Nat)(u:Int×Int)(ve b vs d e f g h:Value)(A:Option Addr)(c:Nat)(a:List (mB 18))(H:kM)(L:List kM):List kM:=k4 gs 112 (rQ x kU u ve b vs d e f g (.slice A a.length c) h)::li 64 18 mB.val A c a::fz H::L
def AN(gs:Nat)(x:lD)(kU:Nat)(u:Int×Int)(H:kM)(L:List kM)(v:Value)(L':List kM):Prop:=v=.tuple #[]/\∃a ve b vs d e f g h A c i,H.le a/\sh a x ve b vs d e f g h i/\L'=m4 gs x kU u ve b vs d e f g h A c i a L
def mB.put{s:Nat}(r:mB s)(j:Nat)(v:Value)(a:v.oneCell'=true):mB s:=⟨r.val.set j v,by rw[bB];exact r.len,λu b=>by
 rcases List.mem_or_eq_of_mem_set b with h|h;·exact r.one u h
 ·rw[h];exact a⟩
theorem QG(l:List lr)(n:Nat)(f:lr->lr):r8 l (n:Int) f=l.modify n f:=by unfold r8;rw[aj Zo];rfl
theorem Ej(l:List lr)(n:Int)(f:lr->lr)(h:¬(0<=n/\n<l.length)):r8 l n f=l:=by
 unfold r8;split;·rename_i a;rw[List.modify_eq_self Zo]
 ·rfl
theorem KM(gs:Nat)(x:lD)(kU:Nat)(u:Int×Int)(n:Int)(H:kM)(ve g vs m o p q s:Value)(A:Option Addr)(c:Nat)(f:List (mB 18))(e:sh H x ve g vs m o p q s f)(W:World)(L:List kM):m3 prog W 67 #[.pointer (some ⟨gs,0,none⟩),nI n] (m4 gs x kU u ve g vs m o p q s A c f H L) (AN gs (pE x n) kU u H L):=by
 unfold m4;refine enter func67 ?_;refine U ?_;by_cases C:0<=n
 ·rw[aZ C];refine U ?_;by_cases D:n<(f.length:Int)
  ·rw[aZ D];obtain⟨k,rfl⟩:∃k:Nat,n=(k:Int):=⟨n.toNat,by omega⟩;have B:k<f.length:=by omega
   obtain⟨row,E⟩:∃r,f[k]? =some r:=⟨_,ad B⟩;refine U ?_;refine wN (l:=f) (i:=k) (j:=8) (y:=row) (y':=row.put 8 (.bool true) rfl) (v:=.bool true) rfl rfl rfl E rfl Zd (p1 p0) rfl (λ_=>trivial) rfl ?_;have F:(f.set k (row.put 8 (.bool true) rfl)).length=f.length:=bB;have J:(f.set k (row.put 8 (.bool true) rfl))[k]? =some (row.put 8 (.bool true) rfl):=cB B;rw[<-F];rw[<-F] at B;generalize K:f.set k (row.put 8 (.bool true) rfl)=z at*;refine U ?_;refine nq [0,1,2,3,4,5,6,7,8,9,10,11,12,13] Zk Zk Zk Zk Zk (λ_ _ _ h=>h) ?_;refine U ?_;refine wN (l:=z) (i:=k) (j:=12) (y:=row.put 8 (.bool true) rfl) (y':=(row.put 8 (.bool true) rfl).put 12 (nI x.lp) rfl) (v:=nI x.lp) rfl rfl rfl J rfl Zd (p1 p0) rfl (λ_=>Sub.of (bu _)) rfl ?_;refine U ?_;have M:(z.set k ((row.put 8 (.bool true) rfl).put 12 (nI x.lp) rfl)).length=z.length:=bB;rw[<-M];have N:k<x.kK.length:=by have:=e.len;omega
   have G:x.kK[k]? =some x.kK[k]:=ad N;have O:=e.kK k row _ E G;have P:z.set k ((row.put 8 (.bool true) rfl).put 12 (nI x.lp) rfl)=f.set k ((row.put 8 (.bool true) rfl).put 12 (nI x.lp) rfl):=by rw[<-K,jw]
   rw[P];generalize x.kK[k]=t0 at*;have I:pE x (k:Int)={x with kK:=x.kK.modify k λt=>{t with mS:=true,mK:=x.lp}}:=by unfold pE;rw[QG]
   exact qD results67 (L':=m4 gs x kU u ve g vs m o p q s A c (f.set k ((row.put 8 (.bool true) rfl).put 12 (nI x.lp) rfl)) H L) lv ⟨rfl,H,ve,g,vs,m,o,p,q,s,A,c,f.set k ((row.put 8 (.bool true) rfl).put 12 (nI x.lp) rfl),le_refl _,by rw[I];refine⟨e.kR,e.kW,e.k6,e.Z,by simp[e.len],AM e.kK G ?_⟩;obtain⟨a,b,d,Q,R,S,T⟩:=O;exact⟨a,b,d,by show(row.val.set 8 _).set 12 _=_;rw[Q];rfl,R,S,T⟩,by rw[I];rfl⟩
  ·rw[bx D];have w:¬(0<=n/\n<(x.kK.length:Int)):=by have:=e.len;omega
   refine U ?_;exact qD results67 lv ⟨rfl,H,ve,g,vs,m,o,p,q,s,A,c,f,le_refl _,⟨e.kR,e.kW,e.k6,e.Z,by unfold pE;rw[Ej _ _ _ w];exact e.len,by unfold pE;rw[Ej _ _ _ w];exact e.kK⟩,rfl⟩
 ·rw[bx C];have w:¬(0<=n/\n<(x.kK.length:Int)):=by have:=e.len;omega
  refine U ?_;exact qD results67 lv ⟨rfl,H,ve,g,vs,m,o,p,q,s,A,c,f,le_refl _,⟨e.kR,e.kW,e.k6,e.Z,by unfold pE;rw[Ej _ _ _ w];exact e.len,by unfold pE;rw[Ej _ _ _ w];exact e.kK⟩,rfl⟩
def uT(x:lD)(kU:Nat)(u:Int×Int):lD:={x with kK:=x.kK.modify kU λt=>mO t u}
theorem Hy(gs:Nat)(x:lD)(kU:Nat)(u:Int×Int)(H:kM)(ve g vs j k m n o:Value)(A:Option Addr)(c:Nat)(d:List (mB 18))(e:sh H x ve g vs j k m n o d)(t:lr)(p:x.kK[kU]? =some t)(J:yU t)(W:World)(L:List kM):m3 prog W 133 #[.pointer (some ⟨gs,0,none⟩)] (m4 gs x kU u ve g vs j k m n o A c d H L) (AN gs (uT x kU u) kU u H L):=by
 have D:kU<d.length:=by have:=(ax.1 p).1;have:=e.len;omega
 obtain⟨row,K⟩:∃r,d[kU]? =some r:=⟨_,ad D⟩;have E:=e.kK kU row t K p;have F:ui H row.val t:=E;obtain⟨_,_,_,G,⟨V,X,rfl,_⟩,⟨Y,d2,rfl,_⟩,⟨B3,d3,rfl,_⟩⟩:=E;obtain⟨val,kF,kG⟩:=row;dsimp only at G F;subst G;unfold m4;refine enter func133 ?_;refine U ?_;refine nq [0,1,2,3,4,5,6,7,8,9,10,11,12,13,14,15,16,17,18,19,20,21,22,23,24,25,26] Zk Zk Zk Zk Zk (λ_ _ _ h=>h) ?_;refine U ?_;refine l4 (hp:=f1 (f1 f0)) (N5 H _ t u F J) ?_;rintro I _ f ⟨_,rfl,_,_,_,rfl,⟨q,s,rfl,M,N⟩,⟨v,w,rfl,O,P⟩,⟨z,B,rfl,Q,R⟩⟩;refine U ?_;refine z7 (l:=d) (i:=kU) (y':=⟨qY (mO t u) (.slice q (mO t u).lA.length s) (.slice v (mO t u).lM.ll.length w) (.slice z (mO t u).lM.l9.length B),rfl,aK.1 rfl⟩) rfl rfl D (p1 p0) rfl (λ_=>Sub.of (bu _)) rfl ?_;refine U ?_;generalize S:(⟨qY (mO t u) (.slice q (mO t u).lA.length s) (.slice v (mO t u).lM.ll.length w) (.slice z (mO t u).lM.l9.length B),rfl,aK.1 rfl⟩:mB 18)=C;have T:(d.set kU C).length=d.length:=bB;rw[<-T];exact qD results133 (L':=m4 gs x kU u ve g vs j k m n o A c (d.set kU C) I L) lv ⟨rfl,I,ve,g,vs,j,k,m,n,o,A,c,d.set kU C,f,⟨e.kR.up f,e.kW.up f,e.k6.up f,e.Z.up f,by simp[uT,e.len],AM (λi r y a b=>s7 f _ _ (e.kK i r y a b)) p (by rw[<-S];exact⟨_,_,_,rfl,⟨q,s,rfl,M,N⟩,⟨v,w,rfl,O,P⟩,⟨z,B,rfl,Q,R⟩⟩)⟩,rfl⟩
theorem QH(gs:Nat)(x:lD)(kU:Nat)(u:Int×Int)(h:Int×Int)(H:kM)(ve f vs g j m o p:Value)(A:Option Addr)(c:Nat)(d:List (mB 18))(e:sh H x ve f vs g j m o p d)(R:∀t∈x.kK,yU t)(W:World)(L:List kM):m3 prog W 135 #[.pointer (some ⟨gs,0,none⟩),.agg (np h).toArray] (m4 gs x kU u ve f vs g j m o p A c d H L) (AN gs (ri x h) kU u H L):=by
 obtain⟨lk,n⟩:=h;unfold m4;refine enter func135 ?_;refine U ?_;intro g3;refine U ?_;refine nq [0,1,2,3,4,5,6,7,8,9,10,11,12,13] Zk Zk Zk Zk Zk (λ_ _ _ h=>h) ?_;refine U ?_;by_cases G:0<=n
 ·rw[aZ G];refine U ?_;by_cases I:n<(d.length:Int)
  ·rw[aZ I];obtain⟨k,rfl⟩:∃k:Nat,n=(k:Int):=⟨n.toNat,by omega⟩;have J:k<d.length:=by omega
   have K:k<x.kK.length:=by have:=e.len;omega
   have M:x.kK[k]? =some x.kK[k]:=ad K;obtain⟨row,S⟩:∃r,d[k]? =some r:=⟨_,ad J⟩;have N:=e.kK k row _ S M;have T:=R x.kK[k] (bv K);generalize x.kK[k]=t at*;have O:ui H row.val t:=N;obtain⟨_,_,_,P,⟨B1,d1,rfl,_⟩,⟨B2,d2,rfl,_⟩,⟨B3,d3,rfl,_⟩⟩:=N;obtain⟨val,kL,kO⟩:=row;dsimp only at P O;subst P;refine U ?_;intro g4;refine U ?_;refine nq [0,1,2,3,4,5,6,7,8,9,10,11,12,13,14,15,16,17,18,19] Zk Zk Zk Zk Zk (λ_ _ _ h=>h) ?_;refine U ?_;refine l4 (hp:=f1 (f1 (f1 (f1 f0)))) (N5 H _ t (1,lk) O T) ?_;rintro Q _ s ⟨_,rfl,_,_,_,rfl,⟨v,w,rfl,V,X⟩,⟨z,B,rfl,Y,kF⟩,⟨C,D,rfl,kG,kH⟩⟩;refine U ?_;refine z7 (l:=d) (i:=k) (y':=⟨qY (mO t (1,lk)) (.slice v (mO t (1,lk)).lA.length w) (.slice z (mO t (1,lk)).lM.ll.length B) (.slice C (mO t (1,lk)).lM.l9.length D),rfl,aK.1 rfl⟩) rfl rfl J (p1 (p1 (p1 p0))) rfl (λ_=>Sub.of (bu _)) rfl ?_;refine U ?_;generalize kI:(⟨qY (mO t (1,lk)) (.slice v (mO t (1,lk)).lA.length w) (.slice z (mO t (1,lk)).lM.ll.length B) (.slice C (mO t (1,lk)).lM.l9.length D),rfl,aK.1 rfl⟩:mB 18)=E;have kJ:(d.set k E).length=d.length:=bB;rw[<-kJ];have q:ri x (lk,(k:Int))={x with kK:=x.kK.modify k λt=>mO t (1,lk)}:=by unfold ri;rw[QG]
   exact qD results135 (L':=m4 gs x kU u ve f vs g j m o p A c (d.set k E) Q L) lv ⟨rfl,Q,ve,f,vs,g,j,m,o,p,A,c,d.set k E,s,by rw[q];exact⟨e.kR.up s,e.kW.up s,e.k6.up s,e.Z.up s,by simp[e.len],AM (λi r y a b=>s7 s _ _ (e.kK i r y a b)) M (by rw[<-kI];exact⟨_,_,_,rfl,⟨v,w,rfl,V,X⟩,⟨z,B,rfl,Y,kF⟩,⟨C,D,rfl,kG,kH⟩⟩)⟩,by rw[q];rfl⟩
  ·rw[bx I];have F:¬(0<=n/\n<(x.kK.length:Int)):=by have:=e.len;omega
   refine U ?_;have q:ri x (lk,n)=x:=by unfold ri;rw[Ej _ _ _ F]
   exact qD results135 (L':=m4 gs x kU u ve f vs g j m o p A c d H L) lv ⟨rfl,H,ve,f,vs,g,j,m,o,p,A,c,d,le_refl _,by rw[q];exact e,by rw[q]⟩
 ·rw[bx G];have F:¬(0<=n/\n<(x.kK.length:Int)):=by have:=e.len;omega
  refine U ?_;have q:ri x (lk,n)=x:=by unfold ri;rw[Ej _ _ _ F]
  exact qD results135 (L':=m4 gs x kU u ve f vs g j m o p A c d H L) lv ⟨rfl,H,ve,f,vs,g,j,m,o,p,A,c,d,le_refl _,by rw[q];exact e,by rw[q]⟩
structure y4(x:lD):Prop where
 kK:∀t∈x.kK,yU t/\t.lA.length<=50000/\t.pos<=500000
 held:x.kW.1.length<=50000
 se:x.kW.2.length<=50000
 k6:x.k6.2.length<=50000
def Hz(k:Nat)(f:lD->Nat->Int×Int->lD):Prop:=∀(gs:Nat) (x:lD) (kU:Nat) (u:Int×Int) (H:kM) (ve a vs b d e g h:Value) (A:Option Addr) (c:Nat) (i:List (mB 18)),sh H x ve a vs b d e g h i->y4 x->kU<x.kK.length->∀W L,m3 prog W k #[.pointer (some ⟨gs,0,none⟩)] (m4 gs x kU u ve a vs b d e g h A c i H L) (AN gs (f x kU u) kU u H L)
def uy(s:lD)(kU:Nat)(u:Int×Int):lD:=match qV s.kW kU u.2 with
 |(t,lA)=>{s with kW:=t,kK:=if lA then s.kK.modify kU λt=>mO t u else s.kK}
theorem ZW:Hz 70 uy:=λgs x kU u H ve s vs v vh va z B A c k g C E W L=>by
 obtain⟨Q,R,rfl,_,_⟩:=Zi g.kW.h;obtain⟨S,T,rfl,_,_⟩:=Zi g.kW.w;have V:x.kK[kU]? =some x.kK[kU]:=ad E;have X:=(C.kK x.kK[kU] (bv E)).1;generalize x.kK[kU]=t0 at*;have m:uy x kU u={x with kW:=(qV x.kW kU u.2).1,kK:=if(qV x.kW kU u.2).2 then x.kK.modify kU λt=>mO t u else x.kK}:=rfl;unfold m4;refine enter func70 ?_;refine sX ?_;refine wM (λY L'=>∃l D F G,H.le D/\w9 D F G (qV x.kW kU u.2).1/\L'=k4 l 34 [F,G]::k4 gs 112 (rQ x kU u ve s vs v (.slice Q x.kW.1.length R) (.slice S x.kW.2.length T) z (.slice A k.length c) B)::li 64 18 mB.val A c k::fz D::L/\
  ml Y [(0,.pointer (some ⟨gs,0,none⟩)),(2,.pointer (some ⟨l,0,none⟩)),(3,.bool (qV x.kW kU u.2).2)]) ?_ ?_
 ·refine qN [] (lC.Z [0,1,2,3,4,5,6,7,8,9,10,11,12,13] (.o8 (lC.Z [14,15,16,17,18,19,20] .mZ) (lC.Z [18,14,15,16,17,19,20] .mZ))) Zk Zk Zk Zk (λ_ _ _ h=>h) (.of Zu) ?_;refine mM _ _ _ _ Zk ?_;refine U ?_;refine ta ?_ ?_;·refine mM _ _ _ _ Zk ?_;refine l4 (hp:=f1 (f1 f0)) (NR H _ _ x.kW g.kW kU u.2 C.held C.se) ?_;rintro j _ f ⟨_,rfl,I,J,rfl,e⟩;obtain⟨n,o,rfl,_,_⟩:=Zi e.h;obtain⟨p,q,rfl,_,_⟩:=Zi e.w;refine U ?_;intro l;refine U ?_;exact⟨l,j,_,_,f,e,rfl,rfl,rfl,rfl,trivial⟩
  ·refine mM _ _ _ _ Zk ?_;refine U ?_;intro l;refine U ?_;refine l4 (hp:=f1 (f1 (f1 f0))) (NR H _ _ x.kW g.kW kU u.2 C.held C.se) ?_;rintro j _ f ⟨_,rfl,I,J,rfl,e⟩;obtain⟨n,o,rfl,_,_⟩:=Zi e.h;obtain⟨p,q,rfl,_,_⟩:=Zi e.w;refine U ?_;exact⟨l,j,_,_,f,e,rfl,rfl,rfl,rfl,trivial⟩
 rintro _ _ ⟨l,j,I,J,f,e,rfl,kF⟩;obtain⟨kI,rfl⟩:=kF.open;obtain⟨n,o,rfl,_,_⟩:=Zi e.h;obtain⟨p,q,rfl,_,_⟩:=Zi e.w;generalize qV x.kW kU u.2=y at*;obtain⟨d,lA⟩:=y;dsimp only at*;refine U ?_;refine rM (vs:=[.slice n d.1.length o,.slice p d.2.length q]) rfl rfl rfl rfl rfl (p1 p0) rfl (λ_=>trivial) rfl ?_;refine U ?_;have K:sh j {x with kW:=d} ve s vs v (.slice n d.1.length o) (.slice p d.2.length q) z B k:=⟨g.kR.up f,e,g.k6.up f,g.Z.up f,g.len,λi r t a b=>s7 f _ _ (g.kK i r t a b)⟩;cases lA with
 |false=>simp only[aM,bH] at m;refine U ?_;exact qD results70 (L':=m4 gs {x with kW:=d} kU u ve s vs v (.slice n d.1.length o) (.slice p d.2.length q) z B A c k j L) lv ⟨rfl,j,_,_,_,_,_,_,_,_,A,c,k,f,by rw[m];exact K,by rw[m]⟩
 |true=>simp only[cc] at m;refine U ?_;refine SL.mL (L':=m4 gs {x with kW:=d} kU u ve s vs v (.slice n d.1.length o) (.slice p d.2.length q) z B A c k j L) lv ?_;refine nR (Hy gs {x with kW:=d} kU u j ve s vs v _ _ z B A c k K t0 V X W L) ?_;rintro _ _ ⟨rfl,M,_,_,_,_,_,_,_,_,N,O,P,kG,kH,rfl⟩;unfold m4;refine U ?_;exact qD results70 (L':=m4 gs (uT {x with kW:=d} kU u) kU u _ _ _ _ _ _ _ _ N O P M L) lv ⟨rfl,M,_,_,_,_,_,_,_,_,N,O,P,le_trans f kG,by rw[m];exact kH,by rw[m];rfl⟩
theorem yU.after{t:lr}(h:yU t)(a:t.lA.length<=50000)(b:t.pos<=500000)(u:Int×Int):yU (mO t u):=by
 have hp:=h.pos;unfold mO;split;·refine⟨by simp;omega,h.ll,h.l9,h.path,?_⟩;dsimp only;split<;>omega
 ·split;·refine⟨by have:=bG (λk=>!(k==u.2)) t.lA;dsimp only;omega,h.ll,h.l9,h.path,?_⟩;dsimp only;split<;>omega
  ·split;·exact⟨h.lA,h.ll,h.l9,h.path,h.pos⟩
   ·split;·exact⟨h.lA,h.ll,h.l9,h.path,h.pos⟩
    ·exact h
theorem KN{α:Type}{f:α->α}:∀{l:List α} {i:Nat} {x:α},x∈l.modify i f->x∈l\/∃y∈l,x=f y:=by
 intro l i x b;obtain⟨j,a,rfl⟩:=cr b;rw[kd];rw[kw] at a;split;·exact .inr ⟨_,bv a,rfl⟩
 ·exact .inl (bv a)
def tS(s:lD)(kU:Nat)(u:Int×Int):lD:=match pw s.kW kU u.2 with
 |(t,next)=>match next with
  |some n=>ri (uT {s with kW:=t} kU u) (u.2,n)
  |none=>uT {s with kW:=t} kU u
theorem ZX:Hz 71 tS:=λgs x kU u H ve z vs B vh va C D A c o g j M W L=>by
 obtain⟨A4,kQ,rfl,_,_⟩:=Zi g.kW.h;obtain⟨A5,kT,rfl,_,_⟩:=Zi g.kW.w;have kX:x.kK[kU]? =some x.kK[kU]:=ad M;have kY:=(j.kK x.kK[kU] (bv M)).1;generalize x.kK[kU]=t0 at*;have m:tS x kU u=match(pw x.kW kU u.2).2 with
  |some n=>ri (uT {x with kW:=(pw x.kW kU u.2).1} kU u) (u.2,n)
  |none=>uT {x with kW:=(pw x.kW kU u.2).1} kU u:=rfl
 unfold m4;refine enter func71 ?_;refine sX ?_;refine wM (λkZ L'=>∃k E N O,H.le E/\w9 E N O (pw x.kW kU u.2).1/\L'=k4 k 34 [N,O]::k4 gs 112 (rQ x kU u ve z vs B (.slice A4 x.kW.1.length kQ) (.slice A5 x.kW.2.length kT) C (.slice A o.length c) D)::li 64 18 mB.val A c o::fz E::L/\
  ml kZ [(0,.pointer (some ⟨gs,0,none⟩)),(2,.pointer (some ⟨k,0,none⟩)),(3,nI (zH (pw x.kW kU u.2).2).1),(4,.bool (zH (pw x.kW kU u.2).2).2)]) ?_ ?_
 ·refine qN [] (lC.Z [0,1,2,3,4,5,6,7,8,9,10,11,12,13] (.o8 (lC.Z [14,15,16,17,18,19,20,21,22] .mZ) (lC.Z [19,14,15,16,17,18,20,21,22] .mZ))) Zk Zk Zk Zk (λ_ _ _ h=>h) (.of Zu) ?_;refine mM _ _ _ _ Zk ?_;refine U ?_;refine ta ?_ ?_;·refine mM _ _ _ _ Zk ?_;refine l4 (hp:=f1 (f1 f0)) (NQ H _ _ x.kW g.kW kU u.2 j.held j.se) ?_;rintro l _ f ⟨_,rfl,P,Q,rfl,d⟩;obtain⟨p,q,rfl,_,_⟩:=Zi d.h;obtain⟨s,v,rfl,_,_⟩:=Zi d.w;refine U ?_;intro k;refine U ?_;exact⟨k,l,_,_,f,d,rfl,rfl,rfl,rfl,rfl,trivial⟩
  ·refine mM _ _ _ _ Zk ?_;refine U ?_;intro k;refine U ?_;refine l4 (hp:=f1 (f1 (f1 f0))) (NQ H _ _ x.kW g.kW kU u.2 j.held j.se) ?_;rintro l _ f ⟨_,rfl,P,Q,rfl,d⟩;obtain⟨p,q,rfl,_,_⟩:=Zi d.h;obtain⟨s,v,rfl,_,_⟩:=Zi d.w;refine U ?_;exact⟨k,l,_,_,f,d,rfl,rfl,rfl,rfl,rfl,trivial⟩
 rintro _ _ ⟨k,l,P,Q,f,d,rfl,k5⟩;obtain⟨lB,rfl⟩:=k5.open;obtain⟨p,q,rfl,_,_⟩:=Zi d.h;obtain⟨s,v,rfl,_,_⟩:=Zi d.w;generalize pw x.kW kU u.2=y at*;obtain⟨e,nx⟩:=y;dsimp only at*;refine U ?_;refine rM (vs:=[.slice p e.1.length q,.slice s e.2.length v]) rfl rfl rfl rfl rfl (p1 p0) rfl (λ_=>trivial) rfl ?_;refine U ?_;have k7:sh l {x with kW:=e} ve z vs B (.slice p e.1.length q) (.slice s e.2.length v) C D o:=⟨g.kR.up f,d,g.k6.up f,g.Z.up f,g.len,λi r t a b=>s7 f _ _ (g.kK i r t a b)⟩;refine SL.mL (L':=m4 gs {x with kW:=e} kU u ve z vs B (.slice p e.1.length q) (.slice s e.2.length v) C D A c o l L) lv ?_;refine nR (Hy gs {x with kW:=e} kU u l ve z vs B _ _ C D A c o k7 t0 kX kY W L) ?_;have k8:∀t∈(uT {x with kW:=e} kU u).kK,yU t:=λt ht=>by
  rcases KN ht with h|⟨t1,h,rfl⟩;·exact(j.kK t h).1
  ·obtain⟨e1,e2,e3⟩:=j.kK t1 h;exact e1.after e2 e3 u
 generalize uT {x with kW:=e} kU u=F at*;rintro _ _ ⟨rfl,G,R,S,T,V,X,Y,kF,kG,I,J,K,kH,kI,rfl⟩;cases nx with
 |none=>dsimp only at m;unfold m4;refine U ?_;exact qD results71 (L':=m4 gs F kU u R S T V X Y kF kG I J K G L) lv ⟨rfl,G,_,_,_,_,_,_,_,_,I,J,K,le_trans f kH,by rw[m];exact kI,by rw[m]⟩
 |some nn=>dsimp only at m;unfold m4;refine U ?_;refine nR (QH gs F kU u (u.2,nn) G R S T V X Y kF kG I J K kI k8 W L) ?_;rintro _ _ ⟨rfl,H3,k9,lc,lg,lh,lm,lq,lu,lx,kJ,kL,kO,ly,lz,rfl⟩;unfold m4;refine U ?_;exact qD results71 (L':=m4 gs (ri F (u.2,nn)) kU u k9 lc lg lh lm lq lu lx kJ kL kO H3 L) lv ⟨rfl,H3,_,_,_,_,_,_,_,_,kJ,kL,kO,le_trans f (le_trans kH ly),by rw[m];exact lz,by rw[m]⟩
def tT(s:lD)(kU:Nat)(u:Int×Int):lD:={s with kK:=s.kK.modify kU λt=>{mO t u with mK:=s.lp}}
theorem ZY:Hz 74 tT:=λgs x kU u H ve w vs z B C D E A c F G I k W L=>by
 have J:x.kK[kU]? =some x.kK[kU]:=ad k;have K:=(I.kK x.kK[kU] (bv k)).1;generalize x.kK[kU]=t0 at*;refine enter func74 ?_;unfold m4;refine U ?_;refine nR (Hy gs x kU u H ve w vs z B C D E A c F G t0 J K W L) ?_;have m:tT x kU u={uT x kU u with kK:=(uT x kU u).kK.modify kU λt=>{t with mK:=(uT x kU u).lp}}:=by unfold tT uT;simp only;rw[gc];rfl
 have M:kU<(uT x kU u).kK.length:=by simp[uT,k]
 generalize uT x kU u=e at*;rintro _ _ ⟨rfl,n,N,O,P,Q,R,S,T,V,o,p,g,X,f,rfl⟩;have Y:kU<g.length:=by have:=f.len;omega
 obtain⟨row,q⟩:∃r,g[kU]? =some r:=⟨_,ad Y⟩;have s:e.kK[kU]? =some e.kK[kU]:=ad M;have kF:=f.kK kU row _ q s;generalize e.kK[kU]=t2 at*;unfold m4;refine U ?_;refine nq [0,1,2,3,4,5,6,7,8,9,10,11,12,13,14,15,16] Zk Zk Zk Zk Zk (λ_ _ _ h=>h) ?_;refine U ?_;refine wN (l:=g) (i:=kU) (j:=12) (y:=row) (y':=row.put 12 (nI e.lp) rfl) (v:=nI e.lp) rfl rfl rfl q rfl Zd (p1 p0) rfl (λ_=>Sub.of (bu _)) rfl ?_;refine U ?_;have kG:(g.set kU (row.put 12 (nI e.lp) rfl)).length=g.length:=bB;rw[<-kG];exact qD results74 (L':=m4 gs e kU u N O P Q R S T V o p (g.set kU (row.put 12 (nI e.lp) rfl)) n L) lv ⟨rfl,n,_,_,_,_,_,_,_,_,o,p,g.set kU (row.put 12 (nI e.lp) rfl),X,by rw[m];refine⟨f.kR,f.kW,f.k6,f.Z,by simp[f.len],AM f.kK s ?_⟩;obtain⟨a,b,d,kH,e1,e2,e3⟩:=kF;exact⟨a,b,d,by show row.val.set 12 _=_;rw[kH];rfl,e1,e2,e3⟩,by rw[m];rfl⟩
def tU(s:lD)(kU:Nat)(up:Int):lD:=match wk s.k6 kU up with
 |(g,mD)=>if mD then pE {s with k6:=g} kU else{s with k6:=g}
theorem ZZ:Hz 73 (λs kU _=>tU s kU ((s.kK[kU]?).map (·.mV)|>.getD 0)):=λgs x kU u H ve q vs v w z vg B A c j e D O W L=>by
 obtain⟨P,Q,rfl,_,_⟩:=Zi e.k6;have E:x.kK[kU]? =some x.kK[kU]:=ad O;dsimp only;rw[E];generalize x.kK[kU]=t0 at*;have R:kU<j.length:=by have:=e.len;omega
 obtain⟨row,S⟩:∃r,j[kU]? =some r:=⟨_,ad R⟩;obtain⟨a,b,d,F,_⟩:=e.kK kU row _ S E;obtain⟨val,kX,kY⟩:=row;dsimp only at F;subst F;show m3 prog W 73 _ _ (AN gs (tU x kU t0.mV) kU u H L);have n:tU x kU t0.mV=if(wk x.k6 kU t0.mV).2 then pE {x with k6:=(wk x.k6 kU t0.mV).1} kU else{x with k6:=(wk x.k6 kU t0.mV).1}:=rfl;unfold m4;refine enter func73 ?_;refine sX ?_;refine wM (λT L'=>∃m C G,H.le C/\Sl 2 np C G (wk x.k6 kU t0.mV).1.2/\L'=k4 m 37 [nI (wk x.k6 kU t0.mV).1.1,G]::k4 gs 112 (rQ x kU u ve q vs v w z (.slice P x.k6.2.length Q) (.slice A j.length c) B)::li 64 18 mB.val A c j::fz C::L/\
  ml T [(0,.pointer (some ⟨gs,0,none⟩)),(2,.pointer (some ⟨m,0,none⟩)),(3,.bool (wk x.k6 kU t0.mV).2)]) ?_ ?_
 ·refine qN [] (lC.Z [0,1,2,3,4,5,6,7,8,9,10,11,12,13,14,15,16,17,18,19,20] (.o8 (lC.Z [21,22,23,24,25,26,27] .mZ) (lC.Z [25,21,22,23,24,26,27] .mZ))) Zk Zk Zk Zk (λ_ _ _ h=>h) (.of Zu) ?_;refine mM _ _ _ _ Zk ?_;refine U ?_;refine ta ?_ ?_;·refine mM _ _ _ _ Zk ?_;refine l4 (hp:=f1 (f1 f0)) (NU H _ x.k6 ⟨_,rfl,e.k6⟩ kU t0.mV D.k6) ?_;rintro k _ f ⟨_,rfl,V,rfl,l⟩;obtain⟨o,p,rfl,_,_⟩:=Zi l;refine U ?_;intro m;refine U ?_;exact⟨m,k,_,f,l,rfl,rfl,rfl,rfl,trivial⟩
  ·refine mM _ _ _ _ Zk ?_;refine U ?_;intro m;refine U ?_;refine l4 (hp:=f1 (f1 (f1 f0))) (NU H _ x.k6 ⟨_,rfl,e.k6⟩ kU t0.mV D.k6) ?_;rintro k _ f ⟨_,rfl,V,rfl,l⟩;obtain⟨o,p,rfl,_,_⟩:=Zi l;refine U ?_;exact⟨m,k,_,f,l,rfl,rfl,rfl,rfl,trivial⟩
 rintro _ _ ⟨m,k,kZ,f,l,rfl,X⟩;obtain⟨k5,rfl⟩:=X.open;obtain⟨o,p,rfl,_,_⟩:=Zi l;generalize wk x.k6 kU t0.mV=y at*;obtain⟨g,mD⟩:=y;dsimp only at*;refine U ?_;refine rM (vs:=[nI g.1,.slice o g.2.length p]) rfl rfl rfl rfl rfl (p1 p0) rfl (λ_=>trivial) rfl ?_;refine U ?_;have I:sh k {x with k6:=g} ve q vs v w z (.slice o g.2.length p) B j:=⟨e.kR.up f,e.kW.up f,l,e.Z.up f,e.len,λi r t a b=>s7 f _ _ (e.kK i r t a b)⟩;cases mD with
 |false=>simp only[aM,bH] at n;refine U ?_;exact qD results73 (L':=m4 gs {x with k6:=g} kU u ve q vs v w z (.slice o g.2.length p) B A c j k L) lv ⟨rfl,k,_,_,_,_,_,_,_,_,A,c,j,f,by rw[n];exact I,by rw[n]⟩
 |true=>simp only[cc] at n;refine U ?_;refine SL.mL (L':=m4 gs {x with k6:=g} kU u ve q vs v w z (.slice o g.2.length p) B A c j k L) lv ?_;refine nR (KM gs {x with k6:=g} kU u kU k ve q vs v w z _ B A c j I W L) ?_;rintro _ _ ⟨rfl,J,Y,kF,kG,kH,kI,kJ,kL,kO,K,M,N,kQ,kT,rfl⟩;unfold m4;refine U ?_;exact qD results73 (L':=m4 gs (pE {x with k6:=g} kU) kU u Y kF kG kH kI kJ kL kO K M N J L) lv ⟨rfl,J,_,_,_,_,_,_,_,_,K,M,N,le_trans f kQ,by rw[n];exact kT,by rw[n]⟩
instance:wz prog 117 3 115:=⟨by kernel_rfl⟩
instance:Bo prog 115 .nilFunc:=⟨_,rfl,rfl⟩
def CI:List (Int×Nat):=[(1,70),(2,71),(3,72),(4,73),(5,74)]
theorem Z0(H:kM):Mk prog 33 #[] H (λes v=>∃g,es=[nG g nI CH CI]/\v=.map (some g)):=λW L=>by refine enter func33 ?_;refine U ?_;refine EZ nI CH (.inl rfl) rfl rfl (λg=>?_);refine uc (a:=(1:Int)) (v:=70) rfl rfl rfl p0 rfl (λ_=>trivial) rfl ?_;refine uc (a:=(2:Int)) (v:=71) rfl rfl rfl p0 rfl (λ_=>trivial) rfl ?_;refine uc (a:=(3:Int)) (v:=72) rfl rfl rfl p0 rfl (λ_=>trivial) rfl ?_;refine uc (a:=(4:Int)) (v:=73) rfl rfl rfl p0 rfl (λ_=>trivial) rfl ?_;refine uc (a:=(5:Int)) (v:=74) rfl rfl rfl p0 rfl (λ_=>trivial) rfl ?_;refine U ?_;refine kS ?_;exact lj results33 Zt lv ⟨[nG g nI CH CI],rfl,g,rfl,rfl⟩
section
variable{P:Program}{n:Sz}{W:World}{q:Md}{Q:Exit->St->List kM->Prop}{σ:St}{L:List kM}{Z:Array Oper}{rest:List Oper}
 {ty:TypeId} {pos:String} {lf:Array Edge} {gd:Option (Nat×Bool)}
theorem Z1{α:Type}(C vs:List α)(N m:Nat)(h:N+vs.length<=m)(a:m<=C.length):(C.take N++vs++C.drop (N+vs.length)).take m=(C.take m).take N++vs++(C.take m).drop (N+vs.length):=by rw[aV,dO,dO,aC,ci Zo,dG,dG,js m N,aY (l:=vs) Zo,eE,aV,kC]
theorem QI{s:Nat}:∀(a:List (mB s)) (i:Nat) (y y':mB s) (j:Nat) (vs:List Value),a[i]? =some y->y'.val=qC y.val j vs->j+vs.length<=s->(a.set i y').flatMap mB.val=qC (a.flatMap mB.val) (i*s+j) vs
 |[],i,y,y',j,vs,h,_,_=>by simp at h
 |r::c,0,y,y',j,vs,h,b,d=>by
  have e:r=y:=by simpa using h
  subst e;simp only[eN,bj,b,qC,jm,cV];have hl:=r.len;rw[cS Zo,fM Zo];simp only[aV]
 |r::c,i+1,y,y',j,vs,h,b,d=>by
  have f:=QI c i y y' j vs (by simpa using h) b d;have hl:=r.len;simp only[gN,bj,f,qC];have g:(i+1)*s+j=r.val.length+(i*s+j):=by rw[bW,hl];omega
  rw[g,i6,show r.val.length+(i*s+j)+vs.length=r.val.length+(i*s+j+vs.length) from by omega,List.drop_length_add_append];simp only[aV]
theorem QJ{a x:Operand}{t k:Nat}[z:oD P t k]{A:Option Addr}{c s e i j:Nat}{l:List (mB s)}{y y':mB s}{vs:List Value}{L':List kM}(d:ev σ a=.pointer (some (pM A s i j))) (B:ev σ x=.agg vs.toArray) (b:vs.length=k) (C:(vs.all Value.oneCell')=true) (m:l[i]? =some y) (D:y'.val=qC y.val j vs) (V:j+k<=s)(hp:oe L (li e s mB.val A c l) (li e s mB.val A c (l.set i y')) L')(E:q.pb=true) (F:q.nP L->q.nP L') (G:lP Z σ ⟨none,.store t a x,ty,pos,lf,gd⟩=true)(h:SL P n W q Z Q rest σ L'):SL P n W q Z Q (⟨none,.store t a x,ty,pos,lf,gd⟩::rest) σ L:=by
 have o:i<l.length:=(ax.1 m).1;refine zW E rfl G rfl λw p=>?_;have H:=uE (p.ok _ hp.mem).holds;rcases H with⟨_,I⟩|⟨g,cur,r,J,f,u,K,M,N⟩
 ·subst I;simp at o
 ·subst J;obtain⟨X,O,R⟩:=z.sj;have Y:i*s+(j+k)<=l.length*s:=by have:(i+1)*s<=l.length*s:=bL s o;rw[bW] at this;omega
  have kF:l.length*s<=c*s:=bL s u;have v:=db P g (i*s+j) e vs 0 cur w f (by simp;omega) (by simpa using C);have S:g<w.heap.size:=(aO.1 f).1;refine⟨w.setRow g (cur.toList.take (i*s+j+0)++vs++cur.toList.drop (i*s+j+0+vs.length)).toArray,L',?_,?_,F,h⟩
  ·have T:pM (some ⟨g,0,none⟩) s i j=⟨g,i*s+j,none⟩:=by simp[pM]
   rw[T] at d;simp[execOp,d,B,Instr.storeAt,Instr.sureAddr,storeVar,sizeOf,typeInfo,O,R,Value.cells,b] at v⊢;simp[v]
  ·refine p.put hp rfl rfl rfl (by simp[World.setRow]) (λk _ b=>ep w g k _ (λe=>b ?_)) ⟨λk b=>?_,?_⟩ (λk b=>.inl ?_);·subst e;simp only[li];exact⟨r,_,rfl,rfl⟩
   ·simp only[li] at b;obtain⟨_,a,d,rfl⟩:=b;cases d;simpa[World.setRow] using S
   ·(simp only[li];refine .inr ⟨g,_,r,rfl,eJ w g cur _ e (0,0) f,by rw[bB];exact u,K,?_,?_⟩;·simp only[cf,ak,aC,bi,fy];omega);·(rw[bB,QI l i y y' j vs m D Zo,<-N];unfold qC;simp only[eu];have rU:cur.toList.length=c*s:=by simpa using M);exact Z1 _ _ _ _ Zo Zo
   ·simp only[li] at b⊢;exact b
end
theorem Z2(H:kM)(g gs:Nat)(cs:List Value)(kU:Nat)(c:H.kn (nX g [.pointer (some ⟨gs,0,none⟩)]))(a:H.kn (nX gs cs))(b:cs[14]? =some (nN kU))(w:Int×Int):Rf prog 64 #[.agg (np w).toArray,.pointer (some ⟨g,0,none⟩)] H (.bool (w.1==(kU:Int))):=λW L=>by refine enter func64 ?_;refine U ?_;intro d;refine U ?_;refine nq [0,1,2,3,4,5,6,7] Zk Zk Zk Zk Zk (λ_ _ _ h=>h) ?_;refine U ?_;refine IA (v:=nN kU) rfl (nS Zn a (le_refl _)) b rfl rfl ?_;refine U ?_;refine kS ?_;exact lj results64 Zt lv ⟨rfl,rfl⟩
theorem Z3(s:lD)(kU:Nat):ob s kU false=(wm s.k6 s.Z.length).2.foldl pE {s with k6:=(wm s.k6 s.Z.length).1}:=rfl
theorem Z4(gs:Nat)(x:lD)(kU:Nat)(u:Int×Int)(H:kM)(ve N vs O P Q vg vo:Value)(A:Option Addr)(c:Nat)(v:List (mB 18))(e:sh H x ve N vs O P Q vg vo v)(hC:y4 x)(W:World)(L:List kM):m3 prog W 31 #[.pointer (some ⟨gs,0,none⟩),.bool false] (m4 gs x kU u ve N vs O P Q vg vo A c v H L) (AN gs (ob x kU false) kU u H L):=by
 obtain⟨A6,kJ,rfl,_,_⟩:=Zi e.k6;obtain⟨A8,kF,rfl,_,_⟩:=Zi e.Z;have hk:=Z3 x kU;unfold m4;refine enter func31 ?_;refine U ?_;intro z;refine U ?_;refine wM (λkL L'=>∃m R kG B d,H.le R/\Sl 2 np R kG (wm x.k6 x.Z.length).1.2/\Sl 1 oY R (.slice B (wm x.k6 x.Z.length).2.length d) (wm x.k6 x.Z.length).2/\
  L'=k4 m 37 [nI (wm x.k6 x.Z.length).1.1,kG]::k4 z 108 [.pointer (some ⟨gs,0,none⟩)]::k4 gs 112 (rQ x kU u ve N vs O P Q (.slice A6 x.k6.2.length kJ) (.slice A v.length c) (.slice A8 x.Z.length kF))::li 64 18 mB.val A c v::fz R::L/\
  ml kL [(2,.pointer (some ⟨z,0,none⟩)),(5,.pointer (some ⟨m,0,none⟩)),(6,.slice B (wm x.k6 x.Z.length).2.length d)]) ?_ ?_
 ·refine qN [] (lC.Z [0,1,2,3,4,5,6,7,8,9,10] (.o8 (lC.Z [11,12,13,14,15,16,17] .mZ) (lC.Z [15,11,12,13,14,16,17] .mZ))) Zk Zk Zk Zk (λ_ _ _ h=>h) (.of Zu) ?_;refine mM _ _ _ _ Zk ?_;refine U ?_;refine ta ?_ ?_;·refine mM _ _ _ _ Zk ?_;refine l4 (hp:=f1 (f1 (f1 f0))) (NV H _ x.k6 ⟨_,rfl,e.k6⟩ x.Z.length hC.k6) ?_;rintro o _ f ⟨_,_,rfl,⟨kO,rfl,k⟩,B,d,rfl,S⟩;obtain⟨T,V,rfl,_,_⟩:=Zi k;refine U ?_;intro m;refine U ?_;exact⟨m,o,_,B,d,f,k,⟨B,d,rfl,S⟩,rfl,rfl,rfl,rfl,trivial⟩
  ·refine mM _ _ _ _ Zk ?_;refine U ?_;intro m;refine U ?_;refine l4 (hp:=f1 (f1 (f1 (f1 f0)))) (NV H _ x.k6 ⟨_,rfl,e.k6⟩ x.Z.length hC.k6) ?_;rintro o _ f ⟨_,_,rfl,⟨kO,rfl,k⟩,B,d,rfl,S⟩;obtain⟨T,V,rfl,_,_⟩:=Zi k;refine U ?_;exact⟨m,o,_,B,d,f,k,⟨B,d,rfl,S⟩,rfl,rfl,rfl,rfl,trivial⟩
 rintro _ _ ⟨m,o,p,B,d,f,k,⟨B',d',kQ,S,hq⟩,rfl,kT⟩;cases kQ;obtain⟨lz,rfl⟩:=kT.open;obtain⟨T,V,rfl,_,_⟩:=Zi k;generalize wm x.k6 x.Z.length=y at*;obtain⟨g,gone⟩:=y;dsimp only at*;refine U ?_;refine rM (vs:=[nI g.1,.slice T g.2.length V]) rfl rfl rfl rfl rfl (p1 (p1 p0)) rfl (λ_=>trivial) rfl ?_;have kX:sh o {x with k6:=g} ve N vs O P Q (.slice T g.2.length V) (.slice A8 x.Z.length kF) v:=⟨e.kR.up f,e.kW.up f,k,e.Z.up f,e.len,λi r t a b=>s7 f _ _ (e.kK i r t a b)⟩;refine U ?_;refine mP (λr σ L'=>∃(i:Nat) (j:lD) (l:kM) (C D E F G I p J:Value) (K:Option Addr) (M:Nat) (q:List (mB 18)),r=gone.length-i/\i<=gone.length/\o.le l/\j=(gone.take i).foldl pE {x with k6:=g}/\sh l j C D E F G I p J q/\
  L'=k4 z 108 [.pointer (some ⟨gs,0,none⟩)]::m4 gs j kU u C D E F G I p J K M q l L/\
  ml σ [(2,.pointer (some ⟨z,0,none⟩)),(63,.slice B gone.length d),(64,nN gone.length),(65,nN i)]) gone.length
  _ Zu ⟨0,{x with k6:=g},o,_,_,_,_,_,_,_,_,A,c,v,by omega,by omega,le_refl _,rfl,kX,rfl,rfl,rfl,rfl,rfl,trivial⟩ ?_
 rintro r σ _ ⟨i,j,l,C,D,E,F,G,I,p,J,K,M,q,rfl,hi,X,Y,kH,rfl,kY⟩;obtain⟨lB,rfl⟩:=kY.open;have lE:=hq.up X;unfold m4;refine U ?_;refine mE rfl (λhc=>?_) (λhc=>?_)
 ·have kZ:i<gone.length:=by have:=am hc;omega
  obtain⟨n,hn⟩:∃s,gone[i]? =some s:=⟨_,ad kZ⟩;have lF:(oY n)[0]? =some (nI n):=rfl;have k5:(gone.take (i+1)).foldl pE {x with k6:=g}=pE j n:=by rw[aT,hn,bV,<-Y];rfl
  refine U ?_;refine SL.mL (L':=m4 gs j kU u C D E F G I p J K M q l (k4 z 108 [.pointer (some ⟨gs,0,none⟩)]::L)) (λw hw=>hw.pick 4 [1,2,3,0] Zd) ?_;refine nR (KM gs j kU u n l C D E F G I p J K M q kH W _) ?_;rintro _ _ ⟨rfl,H2,k7,k8,k9,lc,lg,lh,lm,lq,A',c',kI,lu,lx,rfl⟩;refine SL.mL (L':=k4 z 108 [.pointer (some ⟨gs,0,none⟩)]::m4 gs (pE j n) kU u k7 k8 k9 lc lg lh lm lq A' c' kI H2 L) (λw hw=>hw.pick 4 [3,0,1,2] Zd) ?_;refine U ?_;exact⟨gone.length-(i+1),_,by omega,s1 _,i+1,pE j n,H2,_,_,_,_,_,_,_,_,A',c',kI,rfl,by omega,le_trans X lu,k5.symm,lx,rfl,rfl,rfl,rfl,rfl,trivial⟩
 ·have ly:i=gone.length:=by have:=av hc;omega
  rw[ly,bf,<-hk] at Y;subst Y;refine U ?_;exact qD results31 (L':=m4 gs (ob x kU false) kU u C D E F G I p J K M q l L) lv ⟨rfl,l,_,_,_,_,_,_,_,_,K,M,q,le_trans f X,kH,rfl⟩
theorem Z5{P:Program}{W:World}{σ:St}{L L':List kM}{fn:Func}{R:Value->List kM->Prop}(b:fn.results=#[])(c:∀w,Mem W w L->Mem W w L')(h:R (.tuple #[]) L'):tZ P W fn R .ret σ L:=by intro a w _ d;exact⟨_,jk b _ _ _,L',c w d,h⟩
def mB.fill{s:Nat}(r:mB s)(j:Nat)(vs:List Value)(c:j+vs.length<=s)(b:(vs.all Value.oneCell')=true):mB s:=⟨qC r.val j vs,by
 have:=r.len;unfold qC;simp only[ak,aC,bi];omega,λu a=>by
 unfold qC at a;rcases aQ.1 a with a|a
 ·rcases aQ.1 a with a|a;·exact r.one u (List.mem_of_mem_take a)
  ·exact aK.1 b u a
 ·exact r.one u (dV a)⟩
abbrev HA:List Value:=[nI 120,sv [],lR,nI 0,lR]
theorem Z6(s:lD)(kU:Nat):ob s kU true=pE {s with k6:=(s.k6.1,s.k6.2.filter λw=>!(w.1==(kU:Int))),kK:=s.kK.modify kU λt=>{t with lM:={lU.z with err:=120}}} kU:=rfl
theorem Z7(gs:Nat)(x:lD)(kU:Nat)(u:Int×Int)(H:kM)(ve g vs k m n I o:Value)(A:Option Addr)(c:Nat)(e:List (mB 18))(f:sh H x ve g vs k m n I o e)(R:y4 x)(S:kU<x.kK.length)(W:World)(L:List kM):m3 prog W 31 #[.pointer (some ⟨gs,0,none⟩),.bool true] (m4 gs x kU u ve g vs k m n I o A c e H L) (AN gs (ob x kU true) kU u H L):=by
 obtain⟨T,V,rfl,_,X⟩:=Zi f.k6;have lm:=R.k6;have J:x.kK[kU]? =some x.kK[kU]:=ad S;have Y:kU<e.length:=by have:=f.len;omega
 obtain⟨row,K⟩:∃r,e[kU]? =some r:=⟨_,ad Y⟩;have kF:=f.kK kU row _ K J;generalize x.kK[kU]=t0 at*;rw[Z6];unfold m4;refine enter func31 ?_;refine U ?_;intro v;refine U ?_;refine Br [k4 v 108 [.pointer (some ⟨gs,0,none⟩)]] [(true,0),(true,1),(true,2),(true,3),(true,4),(true,5),(true,8),(false,6),(false,7),(false,9),(true,10),(true,11),(true,12),(true,13),(false,14)] Zk Zk Zk Zk (λ_ _ _ h=>h) (.of Zu) ?_;refine wZ [0,1,2,3,4,5,8] _ Zk ?_;refine U ?_;refine qx rfl ?_;refine U ?_;refine⟨.of Zu,?_⟩;refine qx rfl ?_;refine ov (MT np H T V x.k6.2 Zo X) ?_;rintro _ _ ⟨p,q,rfl,rfl⟩;simp only[aD];refine U ?_;refine⟨.of Zu,?_⟩;refine qx rfl ?_;refine FB (k1 (k1 (k1 (k1 k0)))) (λH' M lq W L=>Vl np H' p q 64 [.pointer (some ⟨v,0,none⟩)] (λw=>w.1==(kU:Int)) x.k6.2 Zo (0,0) rfl (λD E w N=>Z2 D v gs _ kU ((pj (M _ m0)).up E) ((pj (M _ (m1 m0))).up E) rfl w) W L) ?_;refine U ?_;refine⟨.of Zu,?_⟩;refine wZ [10,11,12,13] _ Zk ?_;refine U ?_;refine qx rfl ?_;refine U ?_;refine⟨.of Zu,?_⟩;refine zA ?_;have kG:oT x.k6.2 (λw=>w.1==(kU:Int))=x.k6.2.filter λw=>!(w.1==(kU:Int)):=rfl;generalize oT x.k6.2 (λw=>w.1==(kU:Int))=B at*;refine tJ (hf:=f1 (f1 (f1 f0))) o0 ?_;intro G s kH kI;refine U ?_;refine nq [0,1,2,3,4,5,6,7,8,9,10,11,12] Zk Zk Zk Zk Zk (λ_ _ _ h=>h) ?_;refine U ?_;refine QJ (l:=e) (i:=kU) (j:=13) (y:=row) (y':=row.fill 13 HA Zd rfl) (vs:=HA) rfl rfl rfl rfl K rfl Zd (p1 (p1 p0)) rfl (λ_=>Sub.of (bu _)) rfl ?_;refine U ?_;generalize kJ:row.fill 13 HA Zd rfl=C;have kL:(e.set kU C).length=e.length:=bB;rw[<-kL];have kO:sh G {x with k6:=(x.k6.1,x.k6.2.filter λw=>!(w.1==(kU:Int))),kK:=x.kK.modify kU λt=>{t with lM:={lU.z with err:=120}}} ve g vs k m n (.slice p B.length q) o (e.set kU C):=⟨f.kR.up s,f.kW.up s,by rw[<-kG];exact⟨p,q,rfl,kI,kH⟩,f.Z.up s,by simp[f.len],AM (λi r t a b=>s7 s _ _ (f.kK i r t a b)) J (by obtain⟨a,b,d,kQ,e1,e2,e3⟩:=kF;refine⟨a,lR,lR,?_,e1.up s,Sl.nil _ _ _,Sl.nil _ _ _⟩;rw[<-kJ];show qC row.val 13 HA=_;rw[kQ];rfl)⟩;generalize kT:({x with k6:=(x.k6.1,x.k6.2.filter λw=>!(w.1==(kU:Int))),kK:=x.kK.modify kU λt=>{t with lM:={lU.z with err:=120}}}:lD)=F at*;have kX:rQ F kU u ve g vs k m n (.slice p B.length q) (.slice A (e.set kU C).length c) o=rQ {x with k6:=(x.k6.1,B)} kU u ve g vs k m n (.slice p B.length q) (.slice A (e.set kU C).length c) o:=by rw[<-kT];rfl
 refine Br [k4 v 108 [.pointer (some ⟨gs,0,none⟩)]] [(true,0),(true,1),(true,2),(true,3),(false,4),(false,5)] Zk Zk Zk Zk (λ_ _ _ h=>h) (.of Zu) ?_;refine wZ [0,1,2,3] _ Zk ?_;refine U ?_;refine qx rfl ?_;refine U ?_;refine⟨.of Zu,?_⟩;refine qx rfl ?_;refine SL.mL (L':=m4 gs F kU u ve g vs k m n (.slice p B.length q) o A c (e.set kU C) G (k4 v 108 [.pointer (some ⟨gs,0,none⟩)]::L)) (λw N=>by unfold m4;rw[kX];exact N.pick 4 [1,2,3,0] Zd) ?_;refine nR (KM gs F kU u kU G ve g vs k m n _ o A c _ kO W _) ?_;rintro _ _ ⟨rfl,D,kY,kZ,k5,k7,k8,k9,lc,lg,O,P,Q,E,lh,rfl⟩;refine q8 ?_;unfold m4;refine⟨.of Zu,?_⟩;refine zA ?_;refine kS ?_;exact Z5 results31 (L':=m4 gs (pE F kU) kU u kY kZ k5 k7 k8 k9 lc lg O P Q D L) lv ⟨rfl,D,_,_,_,_,_,_,_,_,O,P,Q,le_trans s E,lh,rfl⟩
theorem Z8(H:kM)(g gs:Nat)(x:lD)(kU n:Nat)(u:Int×Int)(ve j vs k l m o p:Value)(A:Option Addr)(c:Nat)(e:List (mB 18))(q:H.kn (nX g [.pointer (some ⟨gs,0,none⟩)]))(s:H.kn (nX gs (rQ x kU u ve j vs k l m o (.slice A e.length c) p)))(v:H.kn (Rd A 18 mB.val e)) (E:kM) (w:sh E x ve j vs k l m o p e) (y:n<x.kK.length) (hp:∀t∈x.kK,t.call.path.length<=1000000000):Rf prog 214 #[nN n,.pointer (some ⟨g,0,none⟩)] H (.bool (Ak x kU n)):=Fn.rf λW L=>by
 have z:x.kK[n]? =some x.kK[n]:=ad y;have F:n<e.length:=by have:=w.len;omega
 obtain⟨row,G⟩:∃r,e[n]? =some r:=⟨_,ad F⟩;obtain⟨a,b,d,B,_⟩:=w.kK n row _ G z;have I:=hp x.kK[n] (bv y);have h:Ak x kU n=(n != kU&&(qi x.kK[n].call&&!x.kK[n].done)):=by unfold Ak;rw[z]
 generalize x.kK[n]=t at*;obtain⟨val,J,K⟩:=row;dsimp only at B;subst B;refine enter func214 ?_;refine U ?_;refine l4 (hp:=f0) (V3 H t.call I) ?_;rintro M _ i ⟨N,O,P,rfl⟩;have Q:=q.up i;have R:=s.up i;have S:=v.up i;clear q s v;refine U ?_;by_cases f:n=kU;·rw[show((n:Int) != (kU:Int))=false from by simp[f]];refine U ?_;refine kS ?_;exact lX c0 results214 Zt (λ_ _ _=>by rw[h];simp[f]<;>rfl)
 ·rw[show((n:Int) != (kU:Int))=true from by simp;omega];have C:(n != kU)=true:=by simpa using f
  refine U ?_;cases D:qi t.call with
  |false=>refine U ?_;refine kS ?_;exact lX c0 results214 Zt (λ_ _ _=>by rw[h];simp[D,C]<;>rfl)
  |true=>refine U ?_;refine U ?_;refine kS ?_;exact lX c0 results214 Zt (λ_ _ _=>by rw[h];simp[D,f,C]<;>rfl)
end
end Go.Proofs.YtkbifmngmocjnaaGreatDoor
