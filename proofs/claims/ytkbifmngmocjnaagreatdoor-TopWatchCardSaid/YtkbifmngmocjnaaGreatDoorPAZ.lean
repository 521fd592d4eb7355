/- Proved here, packed: what the parts Dmnb Dmnc Dmnd Dmne Dmng Dmnh Dmni Ldmn prove (rules of the walk, contracts of functions, plain laws). Conditions: in each statement. -/
import Derived.Test.YtkbifmngmocjnaaGreatDoorPAY
namespace Go.Proofs.YtkbifmngmocjnaaGreatDoor
set_option maxRecDepth 100000
set_option maxHeartbeats 8000000
set_option linter.all false
section
open Top Proofs.Tryz
def nZ(d:nh)(ve a vs b c e f vt g h i:Value):List Value:=[ve,a,nI d.kN.kR.seen,nI d.kN.kR.mC,vs,b,nI d.kN.kR.next,c,e,nI d.kN.k6.1,f,vt,nI d.kN.lp,g,nN d.lw.ln.size,sv d.lw.ln.pU,h,nI d.lw.seq,nI d.lw.mR,nI d.lw.next,nN d.lw.mK,nI d.lw.nu,nI d.lw.mD,i,.bool d.lw.tu,nI d.lw.n7,nI d.lw.oW,nI d.lw.pV,nI d.oX]
structure uz(H:kM)(d:nh)(ve a vs b c e f vt g h i:Value):Prop where
 kN:vU H d.kN ve a vs b c e f vt g
 lw:qM H d.lw h i
theorem uz.up{H a:kM}{d:nh}{ve b vs c e f g vt i j k:Value}(h:uz H d ve b vs c e f g vt i j k)(hl:H.le a):uz a d ve b vs c e f g vt i j k:=⟨h.kN.up hl,h.lw.up hl⟩
def vB(d:nh)(H:kM)(r:Value):Prop:=∃ve a vs b c e f vt g h i,r=.agg (nZ d ve a vs b c e f vt g h i).toArray/\uz H d ve a vs b c e f vt g h i
def y6:Value:=.slice none 0 0
def xI:List Value:=nZ default y6 y6 y6 y6 y6 y6 y6 y6 y6 y6 y6
theorem QW(mC size:Int):xv mC size=if mC<0\/mC>63 then none else(Bk size).map λw=>⟨n4 mC,w,0⟩:=rfl
theorem HE(H:kM)(l:Steps H)(mC size:Int)(m:0<=mC)(n:mC<=63)(o:od size):Fn prog 15 #[nI mC,nI size] H (λi r=>∃v c,r=.tuple #[v,nI c]/\(c=0↔(xv mC size).isSome=true)/\(∀d,xv mC size=some d->vB d i v)/\(xv mC size=none->v=.agg xI.toArray)):=λW L=>by
 have b:=QW mC size;rw[ai Zo] at b;refine enter func15 ?_;refine U ?_;intro g4;refine U ?_;refine l4 (hp:=f1 f0) (KJ H mC m n) ?_;rintro p _ q ⟨_,rfl,ve,vn,vs,vw,vh,va,vg,vt,vo,rfl,a⟩;obtain⟨s,t,rfl,_,_⟩:=Zi a.kR.kP.es;obtain⟨u,x,rfl,_,_⟩:=Zi a.kR.kP.ns.sl;obtain⟨y,z,A,rfl,_⟩:=Zi a.kR.l3;obtain⟨B,C,D,rfl,_⟩:=Zi a.kR.lN;obtain⟨E,F,rfl,_,_⟩:=Zi a.kW.1;obtain⟨G,I,rfl,_,_⟩:=Zi a.kW.2;obtain⟨J,K,rfl,_,_⟩:=Zi a.k6;obtain⟨M,N,O,rfl,_⟩:=Zi a.kK;obtain⟨P,Q,rfl,_,_⟩:=Zi a.Z;refine U ?_;intro g6;refine U ?_;refine l4 (hp:=f1 (f1 f0)) (WK p (l.up q) size o) ?_;rintro H2 _ R ⟨_,c,rfl,f,vl,vq,rfl,g⟩;obtain⟨S,T,rfl,_,_⟩:=Zi g.ld;obtain⟨V,X,rfl,_,_⟩:=Zi g.waits;cases j:Bk size with
 |none=>
  rw[j] at b f;have k:c≠0:=by intro h;have:=f.1 h;cases this
  simp only[bI];refine U ?_;intro Y;refine U ?_;rw[show(c != 0)=true from by simpa using k];refine U ?_;refine kS ?_;exact m7 (c1 (c1 (c1 c0))) results15 (.agg (cs:=xI) inferInstance rfl lW rfl) Zt (λi hl _=>⟨_,c,rfl,by rw[b];simp[k],(λd e=>by rw[b] at e;cases e),λ_=>rfl⟩)
 |some w=>rw[j] at b f g;have kF:c=0:=f.2 rfl;subst kF;simp only[aN];refine U ?_;intro Y;refine U ?_;refine kS ?_;exact m7 (c1 (c1 (c1 c0))) results15 (.agg (cs:=nZ ⟨n4 mC,w,0⟩ (.slice s (n4 mC).kR.kP.es.length t) (.slice u (n4 mC).kR.kP.ns.length x) (.slice y A.length z) (.slice B D.length C) (.slice E (n4 mC).kW.fst.length F) (.slice G (n4 mC).kW.snd.length I) (.slice J (n4 mC).k6.snd.length K) (.slice M O.length N) (.slice P (n4 mC).Z.length Q) (.slice S w.ln.ld.length T) (.slice V w.waits.length X)) inferInstance rfl lW rfl) Zt (λi hl _=>⟨_,0,rfl,by rw[b];simp,(λd e=>by rw[b] at e;cases e;exact⟨_,_,_,_,_,_,_,_,_,_,_,rfl,⟨a.up (le_trans R hl),g.up hl⟩⟩),λh=>by rw[b] at h;cases h⟩)
theorem HF(d:nh)(c:mo):rL d c=(rA d.kN c).map λx=>({d with kN:=x.1},x.2):=rfl
def HG(d:nh)(c:mo)(H:kM)(r:Value):Prop:=match rL d c with
 |none=>∃v,r=.tuple #[v,nI 0,nI 193]/\vB d H v
 |some (a,n)=>∃v,r=.tuple #[v,nI n,nI 0]/\vB a H v
theorem aau(H:kM)(d:nh)(c:mo)(ve F vs G I J K vt M N O:Value)(b:uz H d ve F vs G I J K vt M N O)(k8:0<=d.kN.lp/\d.kN.lp<=1000000000):Fn prog 23 #[.agg (nZ d ve F vs G I J K vt M N O).toArray,.agg (qL c).toArray] H (HG d c):=λW L=>by
 have g:=HF d c;obtain⟨P,Q,rfl,_,_⟩:=Zi b.kN.kR.kP.es;obtain⟨R,S,rfl,_,_⟩:=Zi b.kN.kR.kP.ns.sl;obtain⟨T,V,X,rfl,_⟩:=Zi b.kN.kR.l3;obtain⟨Y,kF,kG,rfl,_⟩:=Zi b.kN.kR.lN;obtain⟨kH,kI,rfl,_,_⟩:=Zi b.kN.kW.1;obtain⟨kJ,kL,rfl,_,_⟩:=Zi b.kN.kW.2;obtain⟨kO,kQ,rfl,_,_⟩:=Zi b.kN.k6;obtain⟨kT,kX,kY,rfl,_⟩:=Zi b.kN.kK;obtain⟨kZ,k5,rfl,_,_⟩:=Zi b.kN.Z;obtain⟨A9,c9,rfl,_,_⟩:=Zi b.lw.ld;obtain⟨B0,d0,rfl,_,_⟩:=Zi b.lw.waits;refine enter func23 ?_;refine U ?_;intro g2;refine U ?_;intro g3;refine U ?_;intro g4;refine U ?_;refine pN rfl (qP Zn) (oz d.kN (.slice P d.kN.kR.kP.es.length Q) (.slice R d.kN.kR.kP.ns.length S) (.slice T X.length V) (.slice Y kG.length kF) (.slice kH d.kN.kW.1.length kI) (.slice kJ d.kN.kW.2.length kL) (.slice kO d.kN.k6.2.length kQ) (.slice kT kY.length kX) (.slice kZ d.kN.Z.length k5)) rfl rfl rfl rfl ?_;refine U ?_;refine l4 (hp:=f1 (f1 (f1 f0))) (QB H d.kN c _ _ _ _ _ _ _ _ _ b.kN k8) ?_;intro H1 r k7 f;unfold Hw at f;cases hc:rA d.kN c with
 |none=>rw[hc] at f g;obtain⟨_,rfl,ye,yn,ys,yw,yh,ya,yg,yt,yo,rfl,a⟩:=f;obtain⟨h,i,rfl,_,_⟩:=Zi a.kR.kP.es;obtain⟨j,k,rfl,_,_⟩:=Zi a.kR.kP.ns.sl;obtain⟨l,m,o,rfl,_⟩:=Zi a.kR.l3;obtain⟨p,q,s,rfl,_⟩:=Zi a.kR.lN;obtain⟨t,u,rfl,_,_⟩:=Zi a.kW.1;obtain⟨v,w,rfl,_,_⟩:=Zi a.kW.2;obtain⟨y,z,rfl,_,_⟩:=Zi a.k6;obtain⟨A,B,C,rfl,_⟩:=Zi a.kK;obtain⟨D,E,rfl,_,_⟩:=Zi a.Z;refine U ?_;intro g7;refine U ?_;refine kS ?_;exact tg (c1 (c1 (c1 (c1 c0)))) results23 (.agg (cs:=nZ d (.slice P d.kN.kR.kP.es.length Q) (.slice R d.kN.kR.kP.ns.length S) (.slice T X.length V) (.slice Y kG.length kF) (.slice kH d.kN.kW.1.length kI) (.slice kJ d.kN.kW.2.length kL) (.slice kO d.kN.k6.2.length kQ) (.slice kT kY.length kX) (.slice kZ d.kN.Z.length k5) (.slice A9 d.lw.ln.ld.length c9) (.slice B0 d.lw.waits.length d0)) inferInstance rfl lW rfl) Zt Zt (λH' hl _=>by unfold HG;rw[g];exact⟨_,rfl,_,_,_,_,_,_,_,_,_,_,_,rfl,b.up (le_trans k7 hl)⟩)
 |some x=>obtain⟨e,n⟩:=x;rw[hc] at f g;obtain⟨_,rfl,ye,yn,ys,yw,yh,ya,yg,yt,yo,rfl,a⟩:=f;obtain⟨h,i,rfl,_,_⟩:=Zi a.kR.kP.es;obtain⟨j,k,rfl,_,_⟩:=Zi a.kR.kP.ns.sl;obtain⟨l,m,o,rfl,_⟩:=Zi a.kR.l3;obtain⟨p,q,s,rfl,_⟩:=Zi a.kR.lN;obtain⟨t,u,rfl,_,_⟩:=Zi a.kW.1;obtain⟨v,w,rfl,_,_⟩:=Zi a.kW.2;obtain⟨y,z,rfl,_,_⟩:=Zi a.k6;obtain⟨A,B,C,rfl,_⟩:=Zi a.kK;obtain⟨D,E,rfl,_,_⟩:=Zi a.Z;refine U ?_;intro g7;refine U ?_;refine rM (vs:=oz e (.slice h e.kR.kP.es.length i) (.slice j e.kR.kP.ns.length k) (.slice l o.length m) (.slice p s.length q) (.slice t e.kW.1.length u) (.slice v e.kW.2.length w) (.slice y e.k6.2.length z) (.slice A C.length B) (.slice D e.Z.length E)) rfl rfl rfl rfl rfl (p1 (p1 (p1 p0))) rfl (λ_=>trivial) rfl ?_;refine U ?_;refine kS ?_;exact tg (c1 (c1 (c1 (c1 c0)))) results23 (.agg (cs:=nZ {d with kN:=e} (.slice h e.kR.kP.es.length i) (.slice j e.kR.kP.ns.length k) (.slice l o.length m) (.slice p s.length q) (.slice t e.kW.1.length u) (.slice v e.kW.2.length w) (.slice y e.k6.2.length z) (.slice A C.length B) (.slice D e.Z.length E) (.slice A9 d.lw.ln.ld.length c9) (.slice B0 d.lw.waits.length d0)) inferInstance rfl lW rfl) Zt Zt (λH' hl _=>by unfold HG;rw[g];exact⟨_,rfl,_,_,_,_,_,_,_,_,_,_,_,rfl,⟨a.up hl,b.lw.up (le_trans k7 hl)⟩⟩)
theorem KS(d:nh):xY d=(xW d.lw d.kN.Z).map λw=>{d with lw:=w}:=rfl
theorem aav(H:kM)(hT:Steps H)(d:nh)(ve j vs k l m n vt p q s:Value)(a:uz H d ve j vs k l m n vt p q s)(hB:qH d.lw)(kG:d.kN.Z.length<=900)(hf:∀o∈d.kN.Z,pn o)(kH:∀st w',wV d.lw st=some w'->qH w'/\qH (wv w')):Fn prog 42 #[.agg (nZ d ve j vs k l m n vt p q s).toArray] H (λi r=>∃v b,r=.tuple #[v,nI b]/\(b=0↔(xY d).isSome=true)/\vB ((xY d).getD d) i v):=λW L=>by
 have e:=KS d;obtain⟨t,u,rfl,_,_⟩:=Zi a.kN.kR.kP.es;obtain⟨w,x,rfl,_,_⟩:=Zi a.kN.kR.kP.ns.sl;obtain⟨y,z,A,rfl,_⟩:=Zi a.kN.kR.l3;obtain⟨B,C,D,rfl,_⟩:=Zi a.kN.kR.lN;obtain⟨E,F,rfl,_,_⟩:=Zi a.kN.kW.1;obtain⟨G,I,rfl,_,_⟩:=Zi a.kN.kW.2;obtain⟨J,K,rfl,_,_⟩:=Zi a.kN.k6;obtain⟨M,N,O,rfl,_⟩:=Zi a.kN.kK;obtain⟨P,Q,rfl,_,_⟩:=Zi a.kN.Z;obtain⟨R,S,rfl,_,_⟩:=Zi a.lw.ld;obtain⟨T,V,rfl,_,_⟩:=Zi a.lw.waits;refine enter func42 ?_;refine U ?_;intro g1;refine U ?_;intro g2;refine U ?_;refine pN rfl (qP Zn) (nc d.lw (.slice R d.lw.ln.ld.length S) (.slice T d.lw.waits.length V)) rfl rfl rfl rfl ?_;refine U ?_;intro g9;refine U ?_;refine tK (hf:=f1 (f1 f0)) o0 (OS H hT g9 d.lw _ _ a.lw hB _ d.kN.Z a.kN.Z kG hf kH) ?_;rintro H1 _ _ X ⟨kJ,kL,b,rfl,g,c,rfl⟩;cases Y:xW d.lw d.kN.Z with
 |none=>
  rw[Y] at e g c;simp only[bI] at c;have kF:b≠0:=by intro h;have:=g.1 h;cases this
  refine U ?_;rw[show(b != 0)=true from by simpa using kF];refine U ?_;refine kS ?_;exact m7 (c1 (c1 (c1 c0))) results42 (.agg (cs:=nZ d (.slice t d.kN.kR.kP.es.length u) (.slice w d.kN.kR.kP.ns.length x) (.slice y A.length z) (.slice B D.length C) (.slice E d.kN.kW.1.length F) (.slice G d.kN.kW.2.length I) (.slice J d.kN.k6.2.length K) (.slice M O.length N) (.slice P d.kN.Z.length Q) (.slice R d.lw.ln.ld.length S) (.slice T d.lw.waits.length V)) inferInstance rfl lW rfl) Zt (λi hl _=>⟨_,b,rfl,by rw[e];simp[kF],by rw[e];exact⟨_,_,_,_,_,_,_,_,_,_,_,rfl,a.up (le_trans X hl)⟩⟩)
 |some f=>rw[Y] at e g c;simp only[aN] at c;have kI:b=0:=g.2 rfl;subst kI;obtain⟨A7,c7,rfl,_,_⟩:=Zi c.ld;obtain⟨B7,d7,rfl,_,_⟩:=Zi c.waits;simp only[aN];refine U ?_;refine rM (vs:=nc f (.slice A7 f.ln.ld.length c7) (.slice B7 f.waits.length d7)) rfl rfl rfl rfl rfl (p1 (p1 p0)) rfl (λ_=>trivial) rfl ?_;refine U ?_;refine kS ?_;exact m7 (c1 (c1 (c1 c0))) results42 (.agg (cs:=nZ {d with lw:=f} (.slice t d.kN.kR.kP.es.length u) (.slice w d.kN.kR.kP.ns.length x) (.slice y A.length z) (.slice B D.length C) (.slice E d.kN.kW.1.length F) (.slice G d.kN.kW.2.length I) (.slice J d.kN.k6.2.length K) (.slice M O.length N) (.slice P d.kN.Z.length Q) (.slice A7 f.ln.ld.length c7) (.slice B7 f.waits.length d7)) inferInstance rfl lW rfl) Zt (λi hl _=>⟨_,0,rfl,by rw[e];simp,by rw[e];exact⟨_,_,_,_,_,_,_,_,_,_,_,rfl,⟨a.kN.up (le_trans X hl),c.up hl⟩⟩⟩)
theorem KT(H:kM)(e h:Nat)(p:Int)(hp:od p)(lE:H.kn (nX h [nI p]))(d:nh)(ve i vs j k l m vt n f g:Value)(a:uz H d ve i vs j k l m vt n f g){C:Nat}{N:Int}(y:m5 C N d.kN)(z:N<=10000000)(A:C<=50000)(ng:Bool):
 Ch prog 101 #[.bool ng,.pointer (some ⟨e,0,none⟩),.pointer (some ⟨h,0,none⟩)] H (k4 e 78 (nZ d ve i vs j k l m vt n f g))
  (λB e' _=>∃o q r s t u v w x,vU B (nm d.kN p ng) o q r s t u v w x/\e'=k4 e 78 (nZ {d with kN:=nm d.kN p ng} o q r s t u v w x f g)):=λW L=>by
 obtain⟨D,E,rfl,_,_⟩:=Zi a.kN.kR.kP.es;obtain⟨F,G,rfl,_,_⟩:=Zi a.kN.kR.kP.ns.sl;obtain⟨I,J,K,rfl,_⟩:=Zi a.kN.kR.l3;obtain⟨M,O,P,rfl,_⟩:=Zi a.kN.kR.lN;obtain⟨Q,R,rfl,_,_⟩:=Zi a.kN.kW.1;obtain⟨S,T,rfl,_,_⟩:=Zi a.kN.kW.2;obtain⟨V,X,rfl,_,_⟩:=Zi a.kN.k6;obtain⟨Y,kF,kG,rfl,_⟩:=Zi a.kN.kK;obtain⟨kH,kI,rfl,_,_⟩:=Zi a.kN.Z;obtain⟨A9,c9,rfl,_,_⟩:=Zi a.lw.ld;obtain⟨B0,d0,rfl,_,_⟩:=Zi a.lw.waits;refine enter func101 ?_;refine U ?_;refine pN rfl (qP Zn) (oz d.kN (.slice D d.kN.kR.kP.es.length E) (.slice F d.kN.kR.kP.ns.length G) (.slice I K.length J) (.slice M P.length O) (.slice Q d.kN.kW.1.length R) (.slice S d.kN.kW.2.length T) (.slice V d.kN.k6.2.length X) (.slice Y kG.length kF) (.slice kH d.kN.Z.length kI)) rfl rfl rfl rfl ?_;refine U ?_;refine l4 (hp:=f1 f0) (KR H d.kN _ _ _ _ _ _ _ _ _ a.kN y z A p hp ng) ?_;rintro H1 _ kJ ⟨ye,yn,ys,yw,yh,ya,yg,yt,yo,rfl,b⟩;generalize nm d.kN p ng=c at*;obtain⟨kL,kO,rfl,_,_⟩:=Zi b.kR.kP.es;obtain⟨kQ,kT,rfl,_,_⟩:=Zi b.kR.kP.ns.sl;obtain⟨kX,kY,kZ,rfl,_⟩:=Zi b.kR.l3;obtain⟨k5,k7,k8,rfl,_⟩:=Zi b.kR.lN;obtain⟨k9,lc,rfl,_,_⟩:=Zi b.kW.1;obtain⟨lg,lh,rfl,_,_⟩:=Zi b.kW.2;obtain⟨lm,lq,rfl,_,_⟩:=Zi b.k6;obtain⟨lu,lx,ly,rfl,_⟩:=Zi b.kK;obtain⟨lz,lB,rfl,_,_⟩:=Zi b.Z;refine U ?_;refine rM (vs:=oz c (.slice kL c.kR.kP.es.length kO) (.slice kQ c.kR.kP.ns.length kT) (.slice kX kZ.length kY) (.slice k5 k8.length k7) (.slice k9 c.kW.1.length lc) (.slice lg c.kW.2.length lh) (.slice lm c.k6.2.length lq) (.slice lu ly.length lx) (.slice lz c.Z.length lB)) rfl rfl rfl rfl rfl p0 rfl (λ_=>trivial) rfl ?_;refine U ?_;exact xK results101 ⟨H1,_,kJ,rfl,_,_,_,_,_,_,_,_,_,b,rfl⟩
theorem FF(d:nh)(p:Int):xw d p=match tM d.kN p with
 |none=>d
 |some (_,nP)=>
  if nP then match xX d.lw d.kN.Z with
   |none=>{d with kN:=nm d.kN p true}
   |some w=>{d with kN:=nm d.kN p false,lw:=w}
  else{kN:=nm d.kN p false,lw:=rK d.lw ((nm d.kN p false).Z.drop (min (max d.oX 0) (nm d.kN p false).Z.length).toNat),oX:=(nm d.kN p false).Z.length}:=rfl
theorem aaw(H:kM)(hT:Steps H)(p:Int)(hp:od p)(d:nh)(ve vn vs vw vh va vg vt vo vl vq:Value)(e:uz H d ve vn vs vw vh va vg vt vo vl vq){C:Nat}{N:Int}(hI:m5 C N d.kN)(hN:N<=10000000)(hC:C<=50000)(hB:qH d.lw) (mq:d.kN.Z.length<=900) (hf:∀o∈d.kN.Z,pn o) (mF:∀st w',wV d.lw st=some w'->qH w'/\qH (wv w')) (mG:∀w',xU d.lw=some w'->qH w')(mH:∀o∈(nm d.kN p false).Z,pn o) (kY:(nm d.kN p false).Z.length<=1000) (mJ:∀n k,qH (rK d.lw (((nm d.kN p false).Z.drop n).take k))) (oc:od d.oX):Fn prog 41 #[.agg (nZ d ve vn vs vw vh va vg vt vo vl vq).toArray,nI p] H (vB (xw d p)):=λW L=>by
 have c:=FF d p;obtain⟨lq,lu,rfl,_,_⟩:=Zi e.kN.kR.kP.es;obtain⟨lx,ly,rfl,_,_⟩:=Zi e.kN.kR.kP.ns.sl;obtain⟨lz,lB,lE,rfl,_⟩:=Zi e.kN.kR.l3;obtain⟨lF,lG,lH,rfl,_⟩:=Zi e.kN.kR.lN;obtain⟨lI,lJ,rfl,_,_⟩:=Zi e.kN.kW.1;obtain⟨lK,lO,rfl,_,_⟩:=Zi e.kN.kW.2;obtain⟨lS,lT,rfl,_,_⟩:=Zi e.kN.k6;obtain⟨lV,lY,l7,rfl,_⟩:=Zi e.kN.kK;obtain⟨ma,mb,rfl,_,_⟩:=Zi e.kN.Z;obtain⟨A9,c9,rfl,_,_⟩:=Zi e.lw.ld;obtain⟨B0,d0,rfl,_,_⟩:=Zi e.lw.waits;refine enter func41 ?_;refine U ?_;intro g2;refine U ?_;intro g3;refine U ?_;intro g4;refine U ?_;refine pN rfl (qP Zn) (oz d.kN (.slice lq d.kN.kR.kP.es.length lu) (.slice lx d.kN.kR.kP.ns.length ly) (.slice lz lE.length lB) (.slice lF lH.length lG) (.slice lI d.kN.kW.1.length lJ) (.slice lK d.kN.kW.2.length lO) (.slice lS d.kN.k6.2.length lT) (.slice lV l7.length lY) (.slice ma d.kN.Z.length mb)) rfl rfl rfl rfl ?_;refine U ?_;refine l4 (hp:=f1 (f1 (f1 f0))) (QE H d.kN _ _ _ _ _ _ _ _ _ e.kN (cR hI.tz Zd) p hp) ?_;rintro H1 _ kZ rfl;cases mg:tM d.kN p with
 |none=>rw[mg] at c;refine U ?_;refine kS ?_;exact lX (c1 (c1 (c1 c0))) results41 (.agg (cs:=nZ d (.slice lq d.kN.kR.kP.es.length lu) (.slice lx d.kN.kR.kP.ns.length ly) (.slice lz lE.length lB) (.slice lF lH.length lG) (.slice lI d.kN.kW.1.length lJ) (.slice lK d.kN.kW.2.length lO) (.slice lS d.kN.k6.2.length lT) (.slice lV l7.length lY) (.slice ma d.kN.Z.length mb) (.slice A9 d.lw.ln.ld.length c9) (.slice B0 d.lw.waits.length d0)) inferInstance rfl lW rfl) (λx hl _=>by rw[c];exact⟨_,_,_,_,_,_,_,_,_,_,_,rfl,e.up (le_trans kZ hl)⟩)
 |some y=>
  obtain⟨kU,nP⟩:=y;rw[mg] at c;simp only at c;refine U ?_;refine tI (hf:=f1 (f1 f0)) (o1 o0) (λH2 kY k5=>?_);refine pN rfl (qP Zn) (nc d.lw (.slice A9 d.lw.ln.ld.length c9) (.slice B0 d.lw.waits.length d0)) rfl rfl rfl rfl ?_;have kI:=e.up (le_trans kZ kY);cases nP with
  |true=>
   simp only[cc] at c;refine U ?_;intro kL;refine U ?_;refine tK (hf:=f1 (f1 f0)) o0 (WQ H2 (hT.up (le_trans kZ kY)) kL d.lw _ _ kI.lw hB _ d.kN.Z kI.kN.Z mq hf mF mG) ?_;rintro B _ _ kJ ⟨ou,ox,D,rfl,v,s,rfl⟩;cases hn:xX d.lw d.kN.Z with
   |none=>(rw[hn] at c v s;simp only[bI] at s;have k7:D≠0:=by intro h;have:=v.1 h;cases this);obtain⟨f,g,rfl,_,_⟩:=Zi s.ld;obtain⟨j,q,rfl,_,_⟩:=Zi s.waits;simp only[bI];refine U ?_;rw[show(D != 0)=true from by simpa using k7];refine U ?_;refine tK (hf:=f1 (f1 f0)) (o1 (o1 o0)) (KT B g2 g3 p hp (k5.up kJ) d _ _ _ _ _ _ _ _ _ _ _ (kI.up kJ) hI hN hC true) ?_;rintro H4 _ _ k8 ⟨ye,yn,ys,yw,yh,ya,yg,yt,yo,b,rfl⟩;generalize nm d.kN p true=a at*;obtain⟨E,F,rfl,_,_⟩:=Zi b.kR.kP.es;obtain⟨G,I,rfl,_,_⟩:=Zi b.kR.kP.ns.sl;obtain⟨J,K,M,rfl,_⟩:=Zi b.kR.l3;obtain⟨O,P,Q,rfl,_⟩:=Zi b.kR.lN;obtain⟨R,S,rfl,_,_⟩:=Zi b.kW.1;obtain⟨T,V,rfl,_,_⟩:=Zi b.kW.2;obtain⟨X,Y,rfl,_,_⟩:=Zi b.k6;obtain⟨kF,kG,kH,rfl,_⟩:=Zi b.kK;obtain⟨u,r,rfl,_,_⟩:=Zi b.Z;refine U ?_;refine rM (vs:=nc d.lw (.slice f (d.lw:Wl).ln.ld.length g) (.slice j (d.lw:Wl).waits.length q)) rfl rfl rfl rfl rfl p0 rfl (λ_=>trivial) rfl ?_;refine U ?_;refine kS ?_;exact lX (c1 (c1 (c1 c0))) results41 (.agg (cs:=nZ {d with kN:=a,lw:=d.lw} (.slice E a.kR.kP.es.length F) (.slice G a.kR.kP.ns.length I) (.slice J M.length K) (.slice O Q.length P) (.slice R a.kW.1.length S) (.slice T a.kW.2.length V) (.slice X a.k6.2.length Y) (.slice kF kH.length kG) (.slice u a.Z.length r) (.slice f (d.lw:Wl).ln.ld.length g) (.slice j (d.lw:Wl).waits.length q)) inferInstance rfl lW rfl) (λx hl _=>by rw[c];exact⟨_,_,_,_,_,_,_,_,_,_,_,rfl,⟨b.up hl,s.up (le_trans k8 hl)⟩⟩)
   |some z=>rw[hn] at c v s;simp only[aN] at s;have k9:D=0:=v.2 rfl;subst k9;obtain⟨f,g,rfl,_,_⟩:=Zi s.ld;obtain⟨j,q,rfl,_,_⟩:=Zi s.waits;simp only[aN];refine U ?_;refine tK (hf:=f1 (f1 f0)) (o1 (o1 o0)) (KT B g2 g3 p hp (k5.up kJ) d _ _ _ _ _ _ _ _ _ _ _ (kI.up kJ) hI hN hC false) ?_;rintro H4 _ _ k8 ⟨ye,yn,ys,yw,yh,ya,yg,yt,yo,b,rfl⟩;generalize nm d.kN p false=a at*;obtain⟨E,F,rfl,_,_⟩:=Zi b.kR.kP.es;obtain⟨G,I,rfl,_,_⟩:=Zi b.kR.kP.ns.sl;obtain⟨J,K,M,rfl,_⟩:=Zi b.kR.l3;obtain⟨O,P,Q,rfl,_⟩:=Zi b.kR.lN;obtain⟨R,S,rfl,_,_⟩:=Zi b.kW.1;obtain⟨T,V,rfl,_,_⟩:=Zi b.kW.2;obtain⟨X,Y,rfl,_,_⟩:=Zi b.k6;obtain⟨kF,kG,kH,rfl,_⟩:=Zi b.kK;obtain⟨u,r,rfl,_,_⟩:=Zi b.Z;refine U ?_;refine rM (vs:=nc z (.slice f (z:Wl).ln.ld.length g) (.slice j (z:Wl).waits.length q)) rfl rfl rfl rfl rfl p0 rfl (λ_=>trivial) rfl ?_;refine U ?_;refine kS ?_;exact lX (c1 (c1 (c1 c0))) results41 (.agg (cs:=nZ {d with kN:=a,lw:=z} (.slice E a.kR.kP.es.length F) (.slice G a.kR.kP.ns.length I) (.slice J M.length K) (.slice O Q.length P) (.slice R a.kW.1.length S) (.slice T a.kW.2.length V) (.slice X a.k6.2.length Y) (.slice kF kH.length kG) (.slice u a.Z.length r) (.slice f (z:Wl).ln.ld.length g) (.slice j (z:Wl).waits.length q)) inferInstance rfl lW rfl) (λx hl _=>by rw[c];exact⟨_,_,_,_,_,_,_,_,_,_,_,rfl,⟨b.up hl,s.up (le_trans k8 hl)⟩⟩)
  |false=>
   simp only[aM,bH] at c;refine U ?_;intro kL;refine U ?_;refine tK (hf:=f1 (f1 f0)) (o1 (o1 o0)) (KT H2 g2 g3 p hp k5 d _ _ _ _ _ _ _ _ _ _ _ kI hI hN hC false) ?_;rintro B _ _ kJ ⟨ye,yn,ys,yw,yh,ya,yg,yt,yo,b,rfl⟩;generalize nm d.kN p false=a at*;obtain⟨E,F,rfl,_,_⟩:=Zi b.kR.kP.es;obtain⟨G,I,rfl,_,_⟩:=Zi b.kR.kP.ns.sl;obtain⟨J,K,M,rfl,_⟩:=Zi b.kR.l3;obtain⟨O,P,Q,rfl,_⟩:=Zi b.kR.lN;obtain⟨R,S,rfl,_,_⟩:=Zi b.kW.1;obtain⟨T,V,rfl,_,_⟩:=Zi b.kW.2;obtain⟨X,Y,rfl,_,_⟩:=Zi b.k6;obtain⟨kF,kG,kH,rfl,_⟩:=Zi b.kK;obtain⟨u,r,rfl,_,_⟩:=Zi b.Z;obtain⟨oN,o6,mU,o9,mW⟩:=Zi b.Z;cases mU;refine U ?_;obtain⟨n,na,pm⟩:∃n:Nat,min (max d.oX 0) (a.Z.length:Int)=(n:Int)/\n<=a.Z.length:=⟨(min (max d.oX 0) (a.Z.length:Int)).toNat,by omega,by omega⟩;rw[na] at c⊢;rw[bC] at c;refine vX (l:=n) rfl rfl Zo rfl rfl ?_;have ne:(a.Z.drop n).length=a.Z.length-n:=bi;rw[<-ne];have nl:∀o∈a.Z.drop n,pn o:=λo ho=>mH o (dV ho);have nw:B.kn (Rd (qd u r n 7) 7 nA (a.Z.drop n)):=Sl.drop mW Zo n;have nz:=mJ n;generalize pr:a.Z.drop n=l at*;generalize qd u r n 7=AA at*;refine U ?_;refine SC.mL (λw hw=>hw.ny (bX _ _ _)) ?_;refine mP (λm σ L'=>∃(i:Nat) (w':Wl) (lc lg:Value) (x:kM),m=l.length-i/\i<=l.length/\(∀t,rK d.lw (l.take i++t)=rK w' t)/\qM x w' lc lg/\B.le x/\
    L'=k4 kL 151 (nc w' lc lg)::k4 g2 78 (nZ {d with kN:=a} (.slice E a.kR.kP.es.length F) (.slice G a.kR.kP.ns.length I) (.slice J M.length K) (.slice O Q.length P) (.slice R a.kW.1.length S) (.slice T a.kW.2.length V) (.slice X a.k6.2.length Y) (.slice kF kH.length kG) (.slice u a.Z.length r) (.slice A9 d.lw.ln.ld.length c9) (.slice B0 d.lw.waits.length d0))::k4 g4 78 xI::fz x::L/\
    ml σ [(2,.pointer (some ⟨g2,0,none⟩)),(4,.pointer (some ⟨g4,0,none⟩)),(9,.pointer (some ⟨kL,0,none⟩)),(10,.slice u a.Z.length r),(57,.slice AA l.length (r-n)),(58,nN l.length),(59,nN i)]) l.length
    _ (s1 _) ⟨0,d.lw,_,_,B,by omega,by omega,λt=>rfl,kI.lw.up kJ,le_refl B,rfl,rfl,rfl,rfl,rfl,rfl,rfl,rfl,trivial⟩ ?_
   rintro m σ _ ⟨i,w',lc,lg,x,rfl,hi,mz,kT,kX,rfl,nB⟩;obtain⟨px,rfl⟩:=nB.open;have pC:0<=(a.Z.length:Int)/\(a.Z.length:Int)<=1000:=by omega
   refine U ?_;refine mE rfl (λhc=>?_) (λhc=>?_)
   ·have hc:=am hc;have nC:l[i]? =some l[i]:=ad Zo;have nD:=nl l[i] (bv _);have qr:=nw.up kX;have nF:∀t,l.take (i+1)++t=l.take i++(l[i]::t):=by intro t;rw[aT,nC,Option.toList_some,aV,aD]
    have oC:l.drop i=l[i]::l.drop (i+1):=br Zo;have lh:rK d.lw (l.take i)=w':=by have:=mz [];rwa [aP] at this
    have nH:qH w':=by rw[<-lh];exact nz i
    (have kO:rK d.lw l=rK w' (l.drop i):=by have:=mz (l.drop i);rwa [bT] at this);rw[oC] at kO;generalize l[i]=o at*;have qy:(nA o).length=7:=rfl;refine U ?_;intro qF;refine U ?_;refine tK (hf:=f1 (f1 (f1 f0))) (o1 o0) (WP x kL w' _ _ kT nH o nD) ?_;rintro H5 _ _ mh ⟨nK,nT,D,rfl,v,A,rfl⟩;rw[show rK w' (o::l.drop (i+1))=match xV w' o with
     |none=>w'
     |some lm=>rK lm (l.drop (i+1)) from rfl] at kO
    cases hb:xV w' o with
    |none=>(rw[hb] at v A kO;simp only[bI] at A;simp only at kO;have k7:D≠0:=by intro h;have:=v.1 h;cases this);rw[kO] at c;simp only[bI];refine U ?_;rw[show(D != 0)=true from by simpa using k7];obtain⟨f,g,rfl,_,_⟩:=Zi (A).ld;obtain⟨j,q,rfl,_,_⟩:=Zi (A).waits;refine U ?_;refine rM (vs:=nc w' (.slice f (w':Wl).ln.ld.length g) (.slice j (w':Wl).waits.length q)) rfl rfl rfl rfl rfl (p1 (p1 p0)) rfl (λ_=>trivial) rfl ?_;refine U ?_;refine kS ?_;exact lX (c1 (c1 (c1 (c1 c0)))) results41 (.agg (cs:=nZ ⟨a,w',a.Z.length⟩ (.slice E a.kR.kP.es.length F) (.slice G a.kR.kP.ns.length I) (.slice J M.length K) (.slice O Q.length P) (.slice R a.kW.1.length S) (.slice T a.kW.2.length V) (.slice X a.k6.2.length Y) (.slice kF kH.length kG) (.slice u a.Z.length r) (.slice f (w':Wl).ln.ld.length g) (.slice j (w':Wl).waits.length q)) inferInstance rfl lW rfl) (λH9 kQ _=>by rw[c];exact⟨_,_,_,_,_,_,_,_,_,_,_,rfl,⟨b.up (le_trans (le_trans kX mh) kQ),(A).up kQ⟩⟩)
    |some z=>
     rw[hb] at v A;simp only[aN] at A;have k9:D=0:=v.2 rfl;subst k9;simp only[aN];refine U ?_;exact⟨l.length-(i+1),_,by omega,Zu,i+1,z,nK,nT,H5,rfl,by omega,λt=>by
      rw[nF t,mz (o::t)];rw[show rK w' (o::t)=match xV w' o with
       |none=>w'
       |some lm=>rK lm t from rfl,hb],A,le_trans kX mh,rfl,rfl,rfl,rfl,rfl,rfl,rfl,rfl,trivial⟩
   ·(have hc:=av hc;have lh:rK d.lw l=w':=by have:=mz [];rw[aP,aY Zo] at this;exact this);rw[lh] at c;obtain⟨f,g,rfl,_,_⟩:=Zi (kT).ld;obtain⟨j,q,rfl,_,_⟩:=Zi (kT).waits;refine U ?_;refine rM (vs:=nc w' (.slice f (w':Wl).ln.ld.length g) (.slice j (w':Wl).waits.length q)) rfl rfl rfl rfl rfl (p1 p0) rfl (λ_=>trivial) rfl ?_;refine U ?_;refine kS ?_;exact lX (c1 (c1 (c1 c0))) results41 (.agg (cs:=nZ ⟨a,w',a.Z.length⟩ (.slice E a.kR.kP.es.length F) (.slice G a.kR.kP.ns.length I) (.slice J M.length K) (.slice O Q.length P) (.slice R a.kW.1.length S) (.slice T a.kW.2.length V) (.slice X a.k6.2.length Y) (.slice kF kH.length kG) (.slice u a.Z.length r) (.slice f (w':Wl).ln.ld.length g) (.slice j (w':Wl).waits.length q)) inferInstance rfl lW rfl) (λH9 kQ _=>by rw[c];exact⟨_,_,_,_,_,_,_,_,_,_,_,rfl,⟨b.up (le_trans kX kQ),(kT).up kQ⟩⟩)
def HH(b:kV)(es:List kM)(r:Value):Prop:=match qI b with
 |none=>es=[]/\r=.tuple #[.slice none 0 0,nI 50]
 |some l=>∃A c,es=[li 201 7 nA A c l]/\r=.tuple #[.slice A l.length c,nI 0]
theorem aax(H:kM)(b:kV)(v:b.length<=1000000):Mk prog 113 #[sv b] H (HH b):=λW L=>by
 refine enter func113 ?_;refine U ?_;refine SC.oA 201 7 nA none ?_;refine mP (λm σ L'=>∃(t:kV) (e:List lQ) (A:Option Addr) (c:Nat),m=t.length/\t.length+e.length<=b.length/\qI b=(sr t.length t).map (e++·)/\L'=li 201 7 nA A c e::fz H::L/\
  ml σ [(0,sv t),(4,.slice A e.length c)]) b.length _ (s1 _) ⟨b,[],none,0,rfl,by simp,by simp[qI],rfl,rfl,rfl,trivial⟩ ?_
 rintro m σ _ ⟨t,e,A,c,rfl,hl,d,rfl,k⟩;obtain⟨w,rfl⟩:=k.open;refine U ?_;cases h:t with
 |nil=>
  subst h;have d:qI b=some e:=by rw[d];simp[sr]
  refine U ?_;refine kS ?_;exact og results113 Zt Zt (L':=[li 201 7 nA A c e]++fz H::L) lv ⟨_,rfl,by unfold HH;rw[d];exact⟨_,_,rfl,rfl⟩⟩
 |cons a t2=>
  rw[<-h];have i:t≠[]:=by rw[h];simp
  rw[show(t != ([]:kV))=true from by simpa using i];have y:0<t.length:=cA.2 i;obtain⟨f,hf⟩:∃f,t.length=f+1:=⟨t.length-1,by omega⟩;rw[hf,sr,ai i] at d;refine U ?_;refine md (GA t Zo W _) ?_;cases j:uG t with
  |none=>rw[j] at d;have d:qI b=none:=d;refine U ?_;intro n;refine U ?_;refine kS ?_;exact og results113 Zt Zt (L':=[]++fz H::L) lv ⟨_,rfl,by unfold HH;rw[d];exact⟨rfl,rfl⟩⟩
  |some x=>
   obtain⟨o,r⟩:=x;have z:=GB j;rw[j] at d;have p:qI b=(sr r.length r).map ((e++[o])++·):=by have d:qI b=((sr f r).map (o::·)).map (e++·):=d;rw[d,show f=r.length+(f-r.length) from by omega,NA _ _ _ (aA _),di];congr 1;funext x;simp
   refine U ?_;intro n;refine U ?_;refine U ?_;intro q;refine U ?_;refine ap (l:=e) (news:=[o]) (oG (g:=q) (t:=201) (cs:=nA o) Zn rfl) Zl (λs u=>?_);refine U ?_;exact⟨r.length,_,by omega,Zu,r,e++[o],s,u,rfl,by simp;omega,p,rfl,rfl,rfl,trivial⟩
theorem aay(mC:Int)(d:Dk):Cb mC d=if mC<0\/mC>63 then none else match wu d with
 |none=>none
 |some (w,state,a)=>match qI state with
  |none=>none
  |some Z=>match sC a with
   |none=>none
   |some oB=>some ⟨{n4 mC with kR:=xQ (r6 mC) (Z++oB),Z:=Z++oB,k6:=((Z++oB).length,[])},w,(Z++oB).length⟩:=rfl
theorem aaz(mC:Int):xE (n4 mC).kR.kP 1000:=⟨by show(0:Nat)<=1000;omega,by intro e a;cases a⟩
theorem aaA(r:kV)(l:List kV):sC (r::l)=match uG r with
 |some (o,[])=>(sC l).map (o::·)
 |_=>none:=rfl
theorem KU(H:kM)(hT:Steps H)(mC:Int)(h0:0<=mC)(h1:mC<=63)(d:Dk)(v:Value)(hv:Sl 2 sF H v d.ld)(lY:d.ld.length<=300000)(l7:d.size<=1000000000)(hP:∀w p e,wu d=some (w,p,e)->p.length<=1000000/\e.length<=100000/\(∀r∈e,r.length<=1000000)/\(∀Z,qI p=some Z->Z.length<=100000)/\∀Z oB,qI p=some Z->sC e=some oB->(Z++oB).length<=1000/\∀o∈Z++oB,pn o):Fn prog 52 #[nI mC,.agg (qz d v).toArray] H (λu r=>∃v s,r=.tuple #[v,nI s]/\(s=0↔(Cb mC d).isSome=true)/\(∀x,Cb mC d=some x->vB x u v)/\(Cb mC d=none->v=.agg xI.toArray)):=λW L=>by
 have f:=aay mC d;rw[ai Zo] at f;obtain⟨A,c,rfl,nC,nD⟩:=Zi hv;refine enter func52 ?_;refine U ?_;intro g3;refine U ?_;intro K;refine U ?_;refine l4 (hp:=f1 (f1 f0)) (KJ H mC h0 h1) ?_;rintro H1 _ lq ⟨_,rfl,ve,vn,vs,vw,vh,va,vg,vt,vo,rfl,n⟩;generalize kJ:n4 mC=x0 at*;obtain⟨kL,kO,rfl,_,_⟩:=Zi n.kR.kP.es;obtain⟨kQ,kT,rfl,_,_⟩:=Zi n.kR.kP.ns.sl;obtain⟨kX,kY,kZ,rfl,_⟩:=Zi n.kR.l3;obtain⟨k5,k7,k8,rfl,_⟩:=Zi n.kR.lN;obtain⟨M,N,rfl,_,_⟩:=Zi n.kW.1;obtain⟨O,P,rfl,_,_⟩:=Zi n.kW.2;obtain⟨C,D,rfl,_,_⟩:=Zi n.k6;obtain⟨S,T,V,rfl,_⟩:=Zi n.kK;obtain⟨k9,lc,rfl,_,_⟩:=Zi n.Z;refine U ?_;intro X;refine U ?_;refine l4 (hp:=f1 (f1 (f1 f0))) (WN H1 (hT.up lq) d _ (hv.up lq) lY l7) ?_;rintro Y _ lu ⟨_,_,s,rfl,kF,⟨vl,vq,rfl,E⟩,ma⟩;obtain⟨A9,c9,rfl,_,_⟩:=Zi E.ld;obtain⟨B0,d0,rfl,_,_⟩:=Zi E.waits;obtain⟨R,rc,rfl,nF,lx⟩:=Zi ma;cases hn:wu d with
 |none=>
  rw[hn] at f kF;have ly:s≠0:=by intro h;have:=kF.1 h;cases this
  simp only[cO,bI];refine U ?_;intro F;refine U ?_;rw[show(s != 0)=true from by simpa using ly];refine U ?_;refine kS ?_;exact m7 (c1 (c1 (c1 (c1 c0)))) results52 (.agg (cs:=xI) inferInstance rfl lW rfl) Zt (λu hl _=>⟨_,s,rfl,by rw[f];simp[ly],(λx k=>by rw[f] at k;cases k),λ_=>rfl⟩)
 |some y=>
  obtain⟨w,p,e⟩:=y;obtain⟨mb,nH,mg,mh,mq⟩:=hP w p e hn;rw[hn] at f kF E lx;have mF:s=0:=kF.2 rfl;subst mF;simp only[aW,aN] at E lx⊢;simp only at f;refine U ?_;intro F;refine U ?_;refine ov (aax Y p mb) ?_;intro es r G;unfold HH at G;cases kG:qI p with
  |none=>rw[kG] at G f;obtain⟨rfl,rfl⟩:=G;refine U ?_;refine kS ?_;exact m7 (c1 (c1 (c1 (c1 c0)))) results52 (.agg (cs:=xI) inferInstance rfl lW rfl) Zt (λu hl _=>⟨_,140,rfl,by rw[f];simp,(λx k=>by rw[f] at k;cases k),λ_=>rfl⟩)
  |some Z=>
   rw[kG] at G f;obtain⟨Q,q,rfl,rfl⟩:=G;simp only[aD];simp only at f;refine U ?_;refine mP (λm σ L'=>∃(i:Nat) (oB:List lQ) (Q:Option Addr) (q:Nat),m=e.length-i/\i<=e.length/\oB.length=i/\sC e=(sC (e.drop i)).map (oB++·)/\
    L'=li 201 7 nA Q q (Z++oB)::k4 F 76 (nc w (.slice A9 w.ln.ld.length c9) (.slice B0 w.waits.length d0))::k4 X 41 (oz x0 (.slice kL x0.kR.kP.es.length kO) (.slice kQ x0.kR.kP.ns.length kT) (.slice kX kZ.length kY) (.slice k5 k8.length k7) (.slice M x0.kW.1.length N) (.slice O x0.kW.2.length P) (.slice C x0.k6.2.length D) (.slice S V.length T) (.slice k9 x0.Z.length lc))::k4 K 78 xI::fz Y::L/\
    ml σ [(4,.pointer (some ⟨K,0,none⟩)),(6,.pointer (some ⟨X,0,none⟩)),(8,.pointer (some ⟨F,0,none⟩)),(11,.slice Q (Z++oB).length q),(45,.slice R e.length rc),(46,nN e.length),(47,nN i)]) e.length
    (li 201 7 nA Q q Z::k4 F 76 (nc w (.slice A9 w.ln.ld.length c9) (.slice B0 w.waits.length d0))::k4 X 41 (oz x0 (.slice kL x0.kR.kP.es.length kO) (.slice kQ x0.kR.kP.ns.length kT) (.slice kX kZ.length kY) (.slice k5 k8.length k7) (.slice M x0.kW.1.length N) (.slice O x0.kW.2.length P) (.slice C x0.k6.2.length D) (.slice S V.length T) (.slice k9 x0.Z.length lc))::k4 K 78 xI::fz Y::L) Zu ⟨0,[],Q,q,by omega,by omega,rfl,by simp,by rw[aP],rfl,rfl,rfl,by rw[aP]<;>rfl,rfl,rfl,rfl,trivial⟩ ?_
   rintro m σ _ ⟨i,oB,Q,q,rfl,hi,lz,j,rfl,mG⟩;obtain⟨nK,rfl⟩:=mG.open;refine U ?_;refine mE rfl (λI=>?_) (λI=>?_)
   ·have I:=am I;have nT:e[i]? =some e[i]:=ad Zo;have lB:=mg e[i] (bv _);rw[show e.drop i=e[i]::e.drop (i+1) from br Zo] at j;generalize e[i]=rr at*;rw[aaA] at j;refine U ?_;have oc:=mh Z kG;have ou:∀o:lQ,(nA o).length=7:=λ_=>rfl;cases kH:uG rr with
    |none=>rw[kH] at j;have j:sC e=none:=j;rw[j] at f;refine md ((GA rr lB).eq (v':=.tuple #[qW lQ.z,sv [],nI 50]) (by rw[kH];rfl) W _) ?_;refine U ?_;intro mH;refine U ?_;refine U ?_;refine kS ?_;exact m7 (c1 (c1 (c1 (c1 (c1 c0))))) results52 (.agg (cs:=xI) inferInstance rfl lW rfl) Zt (λu hl _=>⟨_,140,rfl,by rw[f];simp,(λx k=>by rw[f] at k;cases k),λ_=>rfl⟩)
    |some y=>
     obtain⟨o,rest⟩:=y;rw[kH] at j;refine md ((GA rr lB).eq (v':=.tuple #[qW o,sv rest,nI 0]) (by rw[kH];rfl) W _) ?_;refine U ?_;intro mH;refine U ?_;by_cases lg:rest=[]
     ·(subst lg;have mJ:sC e=(sC (e.drop (i+1))).map ((oB++[o])++·):=by have j:sC e=((sC (e.drop (i+1))).map (o::·)).map (oB++·):=j;rw[j,di];congr 1;funext x;simp);refine U ?_;intro mU;refine U ?_;have ox:(Z++oB).length=Z.length+i:=by rw[ak,lz]
      refine td (l:=Z++oB) (news:=[o]) (enc:=nA) rfl rfl (oG (g:=mU) (t:=201) (cs:=nA o) Zn rfl) (λ_ _=>by(first|exact p0|exact p1 p0|exact p1 (p1 p0)|exact p1 (p1 (p1 p0))|exact p1 (p1 (p1 (p1 p0)))|exact p1 (p1 (p1 (p1 (p1 p0))))|exact p1 (p1 (p1 (p1 (p1 (p1 p0)))))|exact p1 (p1 (p1 (p1 (p1 (p1 (p1 p0)))))))) Zl Zm rfl (λ_ _=>by(first|exact λ_=>trivial|(intro _;refine Sub.of ?_;exact Zu))) rfl rfl (λA2 c2=>?_);rw[aV];refine U ?_;exact⟨e.length-(i+1),(li 201 7 nA A2 c2 (Z++(oB++[o]))::k4 F 76 (nc w (.slice A9 w.ln.ld.length c9) (.slice B0 w.waits.length d0))::k4 X 41 (oz x0 (.slice kL x0.kR.kP.es.length kO) (.slice kQ x0.kR.kP.ns.length kT) (.slice kX kZ.length kY) (.slice k5 k8.length k7) (.slice M x0.kW.1.length N) (.slice O x0.kW.2.length P) (.slice C x0.k6.2.length D) (.slice S V.length T) (.slice k9 x0.Z.length lc))::k4 K 78 xI::fz Y::L),by omega,Zu,i+1,oB++[o],A2,c2,rfl,by omega,by simp[lz],mJ,rfl,rfl,rfl,rfl,rfl,rfl,rfl,rfl,trivial⟩
     ·rw[show(rest != ([]:kV))=true from by simpa using lg];have j:sC e=none:=by
       rw[j];cases rest with
       |nil=>exact absurd rfl lg
       |cons a b=>rfl
      rw[j] at f;refine U ?_;refine kS ?_;exact m7 (c1 (c1 (c1 (c1 (c1 c0))))) results52 (.agg (cs:=xI) inferInstance rfl lW rfl) Zt (λu hl _=>⟨_,140,rfl,by rw[f];simp,(λx k=>by rw[f] at k;cases k),λ_=>rfl⟩)
   ·(have I:=av I;rw[show e.drop i=[] from aX Zo] at j;have j:sC e=some oB:=by rw[j];simp[sC]);rw[j] at f;simp only at f;obtain⟨mW,na⟩:=mq Z oB kG j;generalize Z++oB=l at*;have ne:r6 mC=x0.kR:=by rw[<-kJ];rfl
    (rw[ne] at f;refine tJ (hf:=f1 (f1 (f1 f0))) o0 (λH3 lh nl nw=>?_);have lE:Sl 7 nA H3 (.slice Q l.length q) l:=⟨_,_,rfl,nw,nl⟩;refine U ?_;refine l4 (hp:=f1 (f1 (f1 f0))) (ZP x0.kR l H3 _ _ _ _ _ (n.kR.up (le_trans lu lh)) (by rw[<-kJ];exact aaz mC) lE mW na) ?_;rintro H4 _ lm ⟨ze,zn,zs,zw,rfl,J⟩;generalize xQ x0.kR l=B at*;obtain⟨lF,lG,rfl,_,_⟩:=Zi J.kP.es;obtain⟨lH,lI,rfl,_,_⟩:=Zi J.kP.ns.sl;obtain⟨lJ,lK,lO,rfl,_⟩:=Zi J.l3;obtain⟨lS,lT,lV,rfl,_⟩:=Zi J.lN;have nz:x0.k6.2=[]:=by rw[<-kJ];rfl);have nB:Sl 2 np H1 (.slice C x0.k6.2.length D) ([]:List (Int×Int)):=by have:=n.k6;rw[nz] at this⊢;exact this
    have kI:=le_trans lu (le_trans lh lm);refine U ?_;refine rM (vs:=sG B (.slice lF B.kP.es.length lG) (.slice lH B.kP.ns.length lI) (.slice lJ lO.length lK) (.slice lS lV.length lT)) rfl rfl rfl rfl rfl (p1 p0) rfl (λ_=>trivial) rfl ?_;refine U ?_;refine kS ?_;exact m7 (c1 (c1 (c1 c0))) results52 (.agg (cs:=nZ ⟨{x0 with kR:=B,Z:=l,k6:=(l.length,[])},w,l.length⟩ (.slice lF B.kP.es.length lG) (.slice lH B.kP.ns.length lI) (.slice lJ lO.length lK) (.slice lS lV.length lT) (.slice M x0.kW.1.length N) (.slice O x0.kW.2.length P) (.slice C x0.k6.2.length D) (.slice S V.length T) (.slice Q l.length q) (.slice A9 w.ln.ld.length c9) (.slice B0 w.waits.length d0)) inferInstance rfl lW rfl) Zt (λu hl _=>⟨_,0,rfl,by rw[f];simp,(λx k=>by rw[f] at k;cases k;exact⟨_,_,_,_,_,_,_,_,_,_,_,rfl,⟨⟨J.up hl,n.kW.up (le_trans kI hl),nB.up (le_trans kI hl),n.kK.up (le_trans kI hl) (s7 (le_trans kI hl)),lE.up (le_trans lm hl)⟩,E.up (le_trans lh (le_trans lm hl))⟩⟩),λh=>by rw[f] at h;cases h⟩)
theorem QX(H:kM)(g:Nat)(w:Wl)(b f:Value)(a:qM H w b f)(l:H.kn (nX g (nc w b f)))(i:w.ln.ld.length<=1000000)(mT:kV)(hp:mT.length<=1000000000):Fn prog 53 #[.pointer (some ⟨g,0,none⟩),sv mT] H (Du (t8 w.ln mT)):=λW L=>by obtain⟨A,c,rfl,m,_⟩:=Zi a.ld;obtain⟨B,e,rfl,n,o⟩:=Zi a.waits;refine enter func53 ?_;refine U ?_;intro p;refine U ?_;refine l4 (hp:=f1 f0) (Wq H w.ln _ a.ld i mT hp) ?_;rintro q _ r ⟨v,rfl,h⟩;generalize t8 w.ln mT=d at*;obtain⟨j,k,rfl,_,_⟩:=Zi h;refine U ?_;refine kS ?_;exact lX (c1 c0) results53 (.agg (cs:=qz d (.slice j d.ld.length k)) inferInstance rfl lW rfl) (λs hl _=>⟨_,rfl,h.up hl⟩)
theorem aaB(d:nh)(mT:kV):uN d mT=Cb d.kN.kR.mC (t8 d.lw.ln mT):=rfl
theorem QY(H:kM)(hT:Steps H)(d:nh)(ve vn vs vw vh va vg vt vo vl vq:Value)(f:uz H d ve vn vs vw vh va vg vt vo vl vq)(h0:0<=d.kN.kR.mC)(h1:d.kN.kR.mC<=63)(mT:kV)(hp:mT.length<=1000000000)(lF:d.lw.ln.ld.length<=1000000) (kI:(t8 d.lw.ln mT).ld.length<=300000) (kJ:(t8 d.lw.ln mT).size<=1000000000)(hP:∀w st kF,wu (t8 d.lw.ln mT)=some (w,st,kF)->st.length<=1000000/\kF.length<=100000/\(∀r∈kF,r.length<=1000000)/\(∀Z,qI st=some Z->Z.length<=100000)/\∀Z oB,qI st=some Z->sC kF=some oB->(Z++oB).length<=1000/\∀o∈Z++oB,pn o):Fn prog 25 #[.agg (nZ d ve vn vs vw vh va vg vt vo vl vq).toArray,sv mT] H (λi r=>∃v b,r=.tuple #[v,nI b]/\(b=0↔(uN d mT).isSome=true)/\(∀x,uN d mT=some x->vB x i v)/\(uN d mT=none->vB d i v)):=λW L=>by
 obtain⟨kL,kO,rfl,_,_⟩:=Zi f.kN.kR.kP.es;obtain⟨kQ,kT,rfl,_,_⟩:=Zi f.kN.kR.kP.ns.sl;obtain⟨kX,kY,kZ,rfl,_⟩:=Zi f.kN.kR.l3;obtain⟨k5,k7,k8,rfl,_⟩:=Zi f.kN.kR.lN;obtain⟨k9,lc,rfl,_,_⟩:=Zi f.kN.kW.1;obtain⟨lg,lh,rfl,_,_⟩:=Zi f.kN.kW.2;obtain⟨lm,lq,rfl,_,_⟩:=Zi f.kN.k6;obtain⟨lu,lx,ly,rfl,_⟩:=Zi f.kN.kK;obtain⟨lz,lB,rfl,_,_⟩:=Zi f.kN.Z;obtain⟨A9,c9,rfl,_,_⟩:=Zi f.lw.ld;obtain⟨B0,d0,rfl,_,_⟩:=Zi f.lw.waits;refine enter func25 ?_;refine U ?_;intro g2;refine U ?_;intro g4;refine U ?_;refine pN rfl (qP Zn) (nc d.lw (.slice A9 d.lw.ln.ld.length c9) (.slice B0 d.lw.waits.length d0)) rfl rfl rfl rfl ?_;refine U ?_;intro lG;refine U ?_;refine C5 (hf:=f1 (f1 f0)) o0 (λH1 kG lH=>?_);have n:=f.up kG;refine qN [] (lC.Z [0,1,2,3,4,5] (.o8 (lC.Z [6] (.o8 (lC.Z [7,8,9,10,11,12,13] .mZ) (lC.Z [11,7,8,9,10,12,13] .mZ))) (lC.Z [11,6,7,8,9,10,12,13] .mZ))) Zk Zk Zk Zk (λ_ _ _ h=>h) (.of Zu) ?_;refine mM _ _ _ _ Zk ?_;refine U ?_;have lE:=aaB d mT;generalize lI:d.kN.kR.mC=rp at*;refine ta ?_ ?_
 ·refine mM _ _ _ _ Zk ?_;refine U ?_;refine l4 (hp:=f1 (f1 f0)) (QX H1 lG d.lw _ _ n.lw lH lF mT hp) ?_;rintro H2 _ m ⟨v2,rfl,kH⟩;refine U ?_;refine ta ?_ ?_
  ·refine mM _ _ _ _ Zk ?_;refine U ?_;refine l4 (hp:=f1 (f1 f0)) (KU H2 (hT.up (le_trans kG m)) rp h0 h1 (t8 d.lw.ln mT) _ kH kI kJ hP) ?_;rintro H3 _ p ⟨v3,b,rfl,c,j,k⟩;rw[<-lE] at c j k;cases e:uN d mT with
   |none=>(rw[e] at c;have l:b≠0:=by intro h;have:=c.1 h;cases this);have q:=k e;subst q;refine U ?_;intro g7;refine U ?_;rw[show(b != 0)=true from by simpa using l];refine U ?_;refine kS ?_;exact m7 (c1 (c1 (c1 c0))) results25 (.agg (cs:=nZ d (.slice kL d.kN.kR.kP.es.length kO) (.slice kQ d.kN.kR.kP.ns.length kT) (.slice kX kZ.length kY) (.slice k5 k8.length k7) (.slice k9 d.kN.kW.1.length lc) (.slice lg d.kN.kW.2.length lh) (.slice lm d.kN.k6.2.length lq) (.slice lu ly.length lx) (.slice lz d.kN.Z.length lB) (.slice A9 d.lw.ln.ld.length c9) (.slice B0 d.lw.waits.length d0)) inferInstance rfl lW rfl) Zt (λi hl _=>⟨_,b,rfl,by simp[l],(λx g=>by cases g),λ_=>⟨_,_,_,_,_,_,_,_,_,_,_,rfl,n.up (le_trans m (le_trans p hl))⟩⟩)
   |some x=>rw[e] at c;have s:b=0:=c.2 rfl;subst s;obtain⟨ye,yn,ys,yw,yh,ya,yg,yt,yo,yl,yq,rfl,a⟩:=j x e;obtain⟨t,u,rfl,_,_⟩:=Zi a.kN.kR.kP.es;obtain⟨y,z,rfl,_,_⟩:=Zi a.kN.kR.kP.ns.sl;obtain⟨A,B,C,rfl,_⟩:=Zi a.kN.kR.l3;obtain⟨D,E,F,rfl,_⟩:=Zi a.kN.kR.lN;obtain⟨G,I,rfl,_,_⟩:=Zi a.kN.kW.1;obtain⟨J,K,rfl,_,_⟩:=Zi a.kN.kW.2;obtain⟨M,N,rfl,_,_⟩:=Zi a.kN.k6;obtain⟨O,P,Q,rfl,_⟩:=Zi a.kN.kK;obtain⟨R,S,rfl,_,_⟩:=Zi a.kN.Z;obtain⟨T,V,rfl,_,_⟩:=Zi a.lw.ld;obtain⟨X,Y,rfl,_,_⟩:=Zi a.lw.waits;refine U ?_;intro g7;refine U ?_;refine kS ?_;exact m7 (c1 (c1 (c1 c0))) results25 (.agg (cs:=nZ x (.slice t x.kN.kR.kP.es.length u) (.slice y x.kN.kR.kP.ns.length z) (.slice A C.length B) (.slice D F.length E) (.slice G x.kN.kW.1.length I) (.slice J x.kN.kW.2.length K) (.slice M x.kN.k6.2.length N) (.slice O Q.length P) (.slice R x.kN.Z.length S) (.slice T x.lw.ln.ld.length V) (.slice X x.lw.waits.length Y)) inferInstance rfl lW rfl) Zt (λi hl _=>⟨_,0,rfl,by simp,(λx' g=>by cases g;exact⟨_,_,_,_,_,_,_,_,_,_,_,rfl,a.up hl⟩),λh=>by cases h⟩)
  ·refine mM _ _ _ _ Zk ?_;refine U ?_;intro g7;refine U ?_;refine l4 (hp:=f1 (f1 (f1 f0))) (KU H2 (hT.up (le_trans kG m)) rp h0 h1 (t8 d.lw.ln mT) _ kH kI kJ hP) ?_;rintro H3 _ p ⟨v3,b,rfl,c,j,k⟩;rw[<-lE] at c j k;cases e:uN d mT with
   |none=>(rw[e] at c;have l:b≠0:=by intro h;have:=c.1 h;cases this);have q:=k e;subst q;refine U ?_;rw[show(b != 0)=true from by simpa using l];refine U ?_;refine kS ?_;exact m7 (c1 (c1 (c1 c0))) results25 (.agg (cs:=nZ d (.slice kL d.kN.kR.kP.es.length kO) (.slice kQ d.kN.kR.kP.ns.length kT) (.slice kX kZ.length kY) (.slice k5 k8.length k7) (.slice k9 d.kN.kW.1.length lc) (.slice lg d.kN.kW.2.length lh) (.slice lm d.kN.k6.2.length lq) (.slice lu ly.length lx) (.slice lz d.kN.Z.length lB) (.slice A9 d.lw.ln.ld.length c9) (.slice B0 d.lw.waits.length d0)) inferInstance rfl lW rfl) Zt (λi hl _=>⟨_,b,rfl,by simp[l],(λx g=>by cases g),λ_=>⟨_,_,_,_,_,_,_,_,_,_,_,rfl,n.up (le_trans m (le_trans p hl))⟩⟩)
   |some x=>rw[e] at c;have s:b=0:=c.2 rfl;subst s;obtain⟨ye,yn,ys,yw,yh,ya,yg,yt,yo,yl,yq,rfl,a⟩:=j x e;obtain⟨t,u,rfl,_,_⟩:=Zi a.kN.kR.kP.es;obtain⟨y,z,rfl,_,_⟩:=Zi a.kN.kR.kP.ns.sl;obtain⟨A,B,C,rfl,_⟩:=Zi a.kN.kR.l3;obtain⟨D,E,F,rfl,_⟩:=Zi a.kN.kR.lN;obtain⟨G,I,rfl,_,_⟩:=Zi a.kN.kW.1;obtain⟨J,K,rfl,_,_⟩:=Zi a.kN.kW.2;obtain⟨M,N,rfl,_,_⟩:=Zi a.kN.k6;obtain⟨O,P,Q,rfl,_⟩:=Zi a.kN.kK;obtain⟨R,S,rfl,_,_⟩:=Zi a.kN.Z;obtain⟨T,V,rfl,_,_⟩:=Zi a.lw.ld;obtain⟨X,Y,rfl,_,_⟩:=Zi a.lw.waits;refine U ?_;refine kS ?_;exact m7 (c1 (c1 (c1 c0))) results25 (.agg (cs:=nZ x (.slice t x.kN.kR.kP.es.length u) (.slice y x.kN.kR.kP.ns.length z) (.slice A C.length B) (.slice D F.length E) (.slice G x.kN.kW.1.length I) (.slice J x.kN.kW.2.length K) (.slice M x.kN.k6.2.length N) (.slice O Q.length P) (.slice R x.kN.Z.length S) (.slice T x.lw.ln.ld.length V) (.slice X x.lw.waits.length Y)) inferInstance rfl lW rfl) Zt (λi hl _=>⟨_,0,rfl,by simp,(λx' g=>by cases g;exact⟨_,_,_,_,_,_,_,_,_,_,_,rfl,a.up hl⟩),λh=>by cases h⟩)
 ·refine mM _ _ _ _ Zk ?_;refine U ?_;intro g7;refine U ?_;refine l4 (hp:=f1 (f1 (f1 f0))) (QX H1 lG d.lw _ _ n.lw lH lF mT hp) ?_;rintro H2 _ m ⟨v2,rfl,kH⟩;refine U ?_;refine l4 (hp:=f1 (f1 (f1 f0))) (KU H2 (hT.up (le_trans kG m)) rp h0 h1 (t8 d.lw.ln mT) _ kH kI kJ hP) ?_;rintro H3 _ p ⟨v3,b,rfl,c,j,k⟩;rw[<-lE] at c j k;cases e:uN d mT with
  |none=>
   rw[e] at c;have l:b≠0:=by intro h;have:=c.1 h;cases this
   have q:=k e;subst q;refine U ?_;rw[show(b != 0)=true from by simpa using l];refine U ?_;refine kS ?_;exact m7 (c1 (c1 (c1 c0))) results25 (.agg (cs:=nZ d (.slice kL d.kN.kR.kP.es.length kO) (.slice kQ d.kN.kR.kP.ns.length kT) (.slice kX kZ.length kY) (.slice k5 k8.length k7) (.slice k9 d.kN.kW.1.length lc) (.slice lg d.kN.kW.2.length lh) (.slice lm d.kN.k6.2.length lq) (.slice lu ly.length lx) (.slice lz d.kN.Z.length lB) (.slice A9 d.lw.ln.ld.length c9) (.slice B0 d.lw.waits.length d0)) inferInstance rfl lW rfl) Zt (λi hl _=>⟨_,b,rfl,by simp[l],(λx g=>by cases g),λ_=>⟨_,_,_,_,_,_,_,_,_,_,_,rfl,n.up (le_trans m (le_trans p hl))⟩⟩)
  |some x=>rw[e] at c;have s:b=0:=c.2 rfl;subst s;obtain⟨ye,yn,ys,yw,yh,ya,yg,yt,yo,yl,yq,rfl,a⟩:=j x e;obtain⟨t,u,rfl,_,_⟩:=Zi a.kN.kR.kP.es;obtain⟨y,z,rfl,_,_⟩:=Zi a.kN.kR.kP.ns.sl;obtain⟨A,B,C,rfl,_⟩:=Zi a.kN.kR.l3;obtain⟨D,E,F,rfl,_⟩:=Zi a.kN.kR.lN;obtain⟨G,I,rfl,_,_⟩:=Zi a.kN.kW.1;obtain⟨J,K,rfl,_,_⟩:=Zi a.kN.kW.2;obtain⟨M,N,rfl,_,_⟩:=Zi a.kN.k6;obtain⟨O,P,Q,rfl,_⟩:=Zi a.kN.kK;obtain⟨R,S,rfl,_,_⟩:=Zi a.kN.Z;obtain⟨T,V,rfl,_,_⟩:=Zi a.lw.ld;obtain⟨X,Y,rfl,_,_⟩:=Zi a.lw.waits;refine U ?_;refine kS ?_;exact m7 (c1 (c1 (c1 c0))) results25 (.agg (cs:=nZ x (.slice t x.kN.kR.kP.es.length u) (.slice y x.kN.kR.kP.ns.length z) (.slice A C.length B) (.slice D F.length E) (.slice G x.kN.kW.1.length I) (.slice J x.kN.kW.2.length K) (.slice M x.kN.k6.2.length N) (.slice O Q.length P) (.slice R x.kN.Z.length S) (.slice T x.lw.ln.ld.length V) (.slice X x.lw.waits.length Y)) inferInstance rfl lW rfl) Zt (λi hl _=>⟨_,0,rfl,by simp,(λx' g=>by cases g;exact⟨_,_,_,_,_,_,_,_,_,_,_,rfl,a.up hl⟩),λh=>by cases h⟩)
end
section
open Top
theorem QZ(w:Wl)(o:lQ):xV w o=match vG [] o with
 |none=>none
 |some s=>zu w s:=rfl
theorem Q0(w:Wl)(o:lQ)(l:List lQ):rK w (o::l)=match xV w o with
 |none=>w
 |some w'=>rK w' l:=rfl
theorem pF.HI:∀(l:List lQ) {n:Int} {w:Wl},pF n w->pF (n+l.length) (rK w l)/\(rK w l).mD=w.mD/\(rK w l).ln=w.ln
 |[],n,w,h=>⟨by rw[show(([]:List lQ).length:Int)=0 from rfl,Int.add_zero];exact h,rfl,rfl⟩
 |o::l,n,w,h=>by
  rw[Q0];have lL:((o::l).length:Int)=l.length+1:=by simp
  cases a:xV w o with
  |none=>exact⟨h.mono Zo,rfl,rfl⟩
  |some w'=>
   rw[QZ] at a;split at a;·cases a
   ·obtain⟨b,i,c,d⟩:=h.append a;obtain⟨e,f,g⟩:=pF.HI l b;exact⟨e.mono Zo,f.trans c,g.trans d⟩
theorem aaC{o:lQ}(h:nj o=true):∃s,vG [] o=some s/\s.length<=300:=by have hf:=Ft h;refine⟨_,by unfold vG;rw[aj h],?_⟩;obtain⟨_,_,e,f,_⟩:=CB h;obtain⟨b,g,i⟩:=E7 h;have j:=Jd b;have k:=hf.node;have l:=hf.lZ;have hp:=E6 [] [o.tm.c,o.tm.r,o.kind,o.node] (by intro x a;simp at a;omega);have d:=E6 ((pI [] [o.tm.c,o.tm.r,o.kind,o.node]).getD []) [o.lZ] (by intro x a;simp at a;omega);have m:=wx (n:=o.name.length) Zo;have p:=wx (n:=o.data.length) Zo;simp only[aG,bm] at hp d;unfold Bd pJ;split<;>simp only[ak,x3]<;>omega
theorem pF.Q1:∀(l:List lQ) {n:Int} {w:Wl},pF n w->(∀o∈l,nj o=true)->w.next+l.length<=1000000->(rK w l).next=w.next+l.length
 |[],n,w,_,_,_=>by show w.next=w.next+(([]:List lQ).length:Int);simp
 |o::l,n,w,h,a,f=>by
  have lL:((o::l).length:Int)=l.length+1:=by simp
  obtain⟨s,c,hl⟩:=aaC (a o (ay ..));have b:zu w s=some {w with waits:=w.waits++[s],next:=w.next+1}:=by rw[JL,ai Zo]
  have d:xV w o=some {w with waits:=w.waits++[s],next:=w.next+1}:=by rw[QZ,c];exact b
  rw[Q0,d];have:=pF.Q1 l (h.append b).1 (λx e=>a x (aI _ e)) (by show w.next+1+(l.length:Int)<=1000000;omega);show(rK {w with waits:=w.waits++[s],next:=w.next+1} l).next=_
  rw[this];show w.next+1+(l.length:Int)=_;omega
structure nL(S:Nat)(N:Int)(d:nh):Prop where
 kN:m5 600 N d.kN
 lw:pF d.oX d.lw
 oX:0<=d.oX/\d.oX<=d.kN.Z.length
 size:d.lw.ln.size<=S
theorem nL.len{S:Nat}{N:Int}{d:nh}(h:nL S N d):d.kN.Z.length<=800:=by have:=h.kN.zR;have:=h.kN.kR.len;omega
theorem nL.Q2{S:Nat}{N:Int}{d:nh}(h:nL S N d):∀o∈d.kN.Z,pn o:=λo a=>Ft (h.kN.Z o a)
theorem nL.B{S:Nat}{N:Int}{d:nh}(h:nL S N d):qH d.lw:=h.lw.B (by have:=h.oX;have:=h.len;omega)
theorem nL.G5{S:Nat}{N:Int}{d:nh}(h:nL S N d):∀a w',wV d.lw a=some w'->qH w'/\qH (wv w'):=λ_ _ b=>h.lw.G5 (by have:=h.oX;have:=h.len;omega) b
theorem nL.JQ{S:Nat}{N:Int}{d:nh}(h:nL S N d):∀w',xU d.lw=some w'->qH w':=λ_ a=>h.lw.JQ (by have:=h.oX;have:=h.len;omega) a
theorem m5.len{N:Int}{x:lD}(h:m5 600 N x):x.Z.length<=800:=by have:=h.zR;have:=h.kR.len;omega
theorem nL.aaD{S:Nat}{N:Int}{d:nh}(h:nL S N d)(p:Int)(n k:Nat):qH (rK d.lw (((nm d.kN p false).Z.drop n).take k)):=by have a:=m5.len (h.kN.y3 p false);have b:=h.oX;have c:=h.len;refine(h.lw.HI _).1.B ?_;rw[aC,bi];omega
theorem nL.up{S:Nat}{N M:Int}{d:nh}(h:nL S N d)(a:N<=M):nL S M d:=⟨h.kN.up a,h.lw,h.oX,h.size⟩
theorem Q3(d:nh)(p:Int):∃ng,(xw d p).kN=nm d.kN p ng:=by
 rw[FF];cases hp:tM d.kN p with
 |none=>exact⟨false,by unfold nm;rw[hp]⟩
 |some y=>
  obtain⟨kU,nP⟩:=y;dsimp only;cases nP with
  |true=>
   rw[aj rfl];cases xX d.lw d.kN.Z with
   |none=>exact⟨true,rfl⟩
   |some w=>exact⟨false,rfl⟩
  |false=>exact⟨false,rfl⟩
theorem nL.step{S:Nat}{N:Int}{d:nh}(h:nL S N d)(p:Int):nL S (N+1) (xw d p):=by
 rw[FF];cases hp:tM d.kN p with
 |none=>exact h.up Zo
 |some y=>
  obtain⟨kU,nP⟩:=y;dsimp only;cases nP with
  |true=>
   rw[aj rfl];cases c:xX d.lw d.kN.Z with
   |none=>exact⟨h.kN.y3 p true,h.lw,by show 0<=d.oX/\d.oX<=(nm d.kN p true).Z.length;rw[KQ hp];exact h.oX,h.size⟩
   |some w=>obtain⟨a,b⟩:=h.lw.tY h.oX.1 c;exact⟨h.kN.y3 p false,a,by show 0<=d.oX/\d.oX<=(nm d.kN p false).Z.length;rw[KQ hp];exact h.oX,by show w.ln.size<=S;rw[b.size];exact h.size⟩
  |false=>
   rw[ai Zd];obtain⟨l,hl⟩:=(HD d.kN p false).Z;have f:=h.oX;have lL:(nm d.kN p false).Z.length=d.kN.Z.length+l.length:=by rw[hl,ak]
   obtain⟨a,b,e⟩:=h.lw.HI ((nm d.kN p false).Z.drop (min (max d.oX 0) (nm d.kN p false).Z.length).toNat);rw[bi] at a;exact⟨h.kN.y3 p false,a.mono (by show _<=(((nm d.kN p false).Z.length:Nat):Int);omega),by show(0:Int)<=(((nm d.kN p false).Z.length:Nat):Int)/\(((nm d.kN p false).Z.length:Nat):Int)<=(((nm d.kN p false).Z.length:Nat):Int);omega,by show(rK _ _).ln.size<=S;rw[e];exact h.size⟩
theorem nL.mark{S:Nat}{N:Int}{d b:nh}(h:nL S N d)(a:xY d=some b):nL S N b/\b.kN=d.kN:=by
 rw[KS] at a;cases c:xW d.lw d.kN.Z with
 |none=>rw[c] at a;cases a
 |some w=>rw[c] at a;cases a;obtain⟨e,f⟩:=h.lw.JR h.oX.1 c;exact⟨⟨h.kN,e,h.oX,by show w.ln.size<=S;rw[f.size];exact h.size⟩,rfl⟩
theorem nL.start{S:Nat}{N:Int}{d e:nh}{c:mo}{k:Int}(h:nL S N d)(f:yd c)(b:rL d c=some (e,k)):nL S (N+1) e:=by
 rw[HF] at b;cases a:rA d.kN c with
 |none=>rw[a] at b;cases b
 |some y=>
  obtain⟨x,i⟩:=y;rw[a] at b;cases b;have g:x.Z=d.kN.Z:=by
   unfold rA at a;split at a;·cases a
   ·cases a;rfl
  exact⟨h.kN.start f a,h.lw,by show 0<=d.oX/\d.oX<=x.Z.length;rw[g];exact h.oX,h.size⟩
theorem m5.oB{C a:Nat}{N:Int}{x:lD}(h:m5 C N x)(b:C<=a):m5 a N x:={h with zR:=by have:=h.zR;omega}
theorem nL.Q4{S:Nat}{N:Int}{d:nh}(h:nL S N d)(p:S<=255)(mT:kV):(t8 d.lw.ln mT).ld.length<=300000/\(t8 d.lw.ln mT).size<=1000000000/\∀w c e,wu (t8 d.lw.ln mT)=some (w,c,e)->c.length<=1000000/\e.length<=100000/\(∀r∈e,r.length<=1000000)/\(∀Z,qI c=some Z->Z.length<=100000)/\∀Z oB,qI c=some Z->sC e=some oB->(Z++oB).length<=1000/\∀o∈Z++oB,pn o:=by obtain⟨g,i,q⟩:=h.lw.ln.Cr mT;have s:=h.size;refine⟨by rw[i];exact aR _,by omega,λw c e f=>?_⟩;obtain⟨t,u,j,k⟩:=P8 g Zo f;refine⟨by omega,by omega,λr l=>by have:=j r l;omega,λZ m=>by have:=(Kl _ _ _ m).1;omega,λZ oB a b=>?_⟩;obtain⟨v,n⟩:=k Z oB a b;exact⟨by omega,λo f=>Ft (n o f)⟩
theorem nL.Cr{S:Nat}{N:Int}{d x:nh}(h:nL S N d)(g:0<=N)(q:S<=255){mT:kV}(a:uN d mT=some x):nL S N x:=by
 obtain⟨f,i,r⟩:=h.lw.ln.Cr mT;have s:=h.size;have j:=h.kN.kR.mC;unfold uN at a;generalize t8 d.lw.ln mT=k at*;unfold Cb at a;rw[ai Zo] at a;cases b:wu k with
 |none=>rw[b] at a;cases a
 |some y=>
  obtain⟨w,l,m⟩:=y;rw[b] at a;dsimp only at a;cases c:qI l with
  |none=>rw[c] at a;cases a
  |some Z=>
   rw[c] at a;dsimp only at a;cases e:sC m with
   |none=>rw[e] at a;cases a
   |some oB=>rw[e] at a;cases a;obtain⟨_,_,_,n⟩:=P8 f Zo b;obtain⟨o,p⟩:=n Z oB c e;obtain⟨k1,k2⟩:=pF.WS f i b;exact⟨(m5.oB (m5.Zg j p) o).up g,k1.mono (by show(0:Int)<=(((Z++oB).length:Nat):Int);omega),by show(0:Int)<=(((Z++oB).length:Nat):Int)/\(((Z++oB).length:Nat):Int)<=(((Z++oB).length:Nat):Int);omega,by show w.ln.size<=S;omega⟩
theorem nL.new{S:Nat}{r size:Int}{d:nh}(b:0<=r/\r<=63)(g:0<=size/\size<=S)(h:xv r size=some d):nL S 0 d/\d.kN=n4 r/\d.oX=0/\d.lw.next=1/\d.lw.mD=0:=by
 rw[QW,ai Zo] at h;cases a:Bk size with
 |none=>rw[a] at h;cases h
 |some w=>rw[a] at h;cases h;obtain⟨c,e,f,i⟩:=pF.new a;have j:(uK size).size=(min (max size 0) 65536).toNat:=rfl;exact⟨⟨m5.oB (m5.new b) Zo,c,by show(0:Int)<=0/\(0:Int)<=(([]:List lQ).length:Int);simp,by show w.ln.size<=S;omega⟩,rfl,rfl,e,f⟩
def yu:Nat->Nat->nh->(Nat->Int)->nh
 |0,_,d,_=>d
 |f+1,i,d,p=>if tN d.kN then d else yu f (i+1) (xw d (p i)) p
def sU(d:nh)(p:Nat->Int):nh:=yu (45*d.kN.kK.length*d.kN.kK.length) 0 d p
theorem Q5:∀(f i:Nat) {S:Nat} {N:Int} {d:nh} (p:Nat->Int),nL S N d->sI d.kN<=f->tN (yu f i d p).kN=true/\nL S (N+f) (yu f i d p)
 |0,i,S,N,d,p,h,hf=>by
  have a:tN d.kN=true:=by
   refine h.kN.tQ ?_;by_cases b:pa d.kN=[];·exact b
   ·have:=(h.kN.step 0 false b).2;omega
  exact⟨a,h.up Zo⟩
 |f+1,i,S,N,d,p,h,hf=>by
  unfold yu;split;·rename_i a;exact⟨a,h.up Zo⟩
  ·rename_i a;have b:pa d.kN≠[]:=λe=>a (h.kN.tQ e);obtain⟨ng,c⟩:=Q3 d (p i);have k:=(h.kN.step (p i) ng b).2;obtain⟨g,j⟩:=Q5 f (i+1) p (h.step (p i)) (by rw[c];omega);exact⟨g,j.up Zo⟩
theorem nL.quiet{S:Nat}{N:Int}{d:nh}(h:nL S N d)(p:Nat->Int):tN (sU d p).kN=true/\nL S (N+72000) (sU d p):=by obtain⟨a,b⟩:=Q5 (45*d.kN.kK.length*d.kN.kK.length) 0 p h h.kN.Zf;have:=h.kN.tz;have c:45*d.kN.kK.length*d.kN.kK.length<=45*40*40:=gb (kg _ this) this;exact⟨a,b.up Zo⟩
structure xJ(d:nh):Prop where
 oX:d.oX=d.kN.Z.length
 next:d.lw.next=d.kN.Z.length+1
 mD:d.kN.k6.1<=d.lw.mD
 kK:rR d.lw.mD d.kN.kK
theorem xJ.step{S:Nat}{N:Int}{d:nh}(h:xJ d)(a:nL S N d)(p:Int):xJ (xw d p):=by
 rw[FF];cases hp:tM d.kN p with
 |none=>exact h
 |some y=>
  obtain⟨kU,nP⟩:=y;dsimp only;have u:∃t,d.kN.kK[kU]? =some t/\t.mS=false:=by
   by_cases i:pa d.kN=[];·unfold tM at hp;rw[aj i] at hp;cases hp
   ·obtain⟨n,j,e⟩:=KA p i;rw[e] at hp;cases hp;obtain⟨t,g,b,_⟩:=Fw.1 j;exact⟨t,g,b⟩
  have f:=λng=>Hs (ng:=ng) hp;cases nP with
  |true=>
   rw[aj rfl];have c:=λng=>KQ (ng:=ng) hp;cases v:xX d.lw d.kN.Z with
   |none=>
    dsimp only;have hf:=rR.ng (s:={d.kN with lp:=d.kN.lp+1}) (kU:=kU) h.kK h.mD;refine⟨by show d.oX=_;rw[c];exact h.oX,by show d.lw.next=_;rw[c];exact h.next,?_,?_⟩;·show(nm d.kN p true).k6.1<=d.lw.mD;rw[f,aj rfl];exact hf.2
    ·show rR d.lw.mD (nm d.kN p true).kK;rw[f,aj rfl];exact hf.1
   |some w=>
    dsimp only;obtain⟨g,b⟩:=a.lw.tY a.oX.1 v;have A:w.mD=d.kN.Z.length:=by rw[b.mD,h.next];omega
    have hf:=rR.tY a.kN h.kK (El:=w.mD) Zo kU;refine⟨by show d.oX=_;rw[c];exact h.oX,by show w.next=_;rw[c,b.next];exact h.next,?_,?_⟩;·show(nm d.kN p false).k6.1<=w.mD;rw[f,aj rfl];exact hf.2
    ·show rR w.mD (nm d.kN p false).kK;rw[f,aj rfl];exact hf.1
  |false=>
   rw[ai Zd];obtain⟨t,k,x⟩:=u;obtain⟨l,hl⟩:=(HD d.kN p false).Z;have z:=(a.kN.y3 p false).Z;have B:=m5.len (a.kN.y3 p false);have lL:(nm d.kN p false).Z.length=d.kN.Z.length+l.length:=by rw[hl,ak]
   have C:=h.oX;have j:=h.next;have m:((nm d.kN p false).Z.drop (min (max d.oX 0) ((nm d.kN p false).Z.length:Int)).toNat).length=l.length:=by rw[bi];omega
   obtain⟨g,b,D⟩:=a.lw.HI ((nm d.kN p false).Z.drop (min (max d.oX 0) ((nm d.kN p false).Z.length:Int)).toNat);have q:=a.lw.Q1 ((nm d.kN p false).Z.drop (min (max d.oX 0) ((nm d.kN p false).Z.length:Int)).toNat) (λo c=>z o (dV c)) (by rw[m];omega);rw[m] at q;have hf:=rR.pT (s:={d.kN with lp:=d.kN.lp+1}) h.kK k x rfl h.mD;have r:nm d.kN p false=pz {d.kN with lp:=d.kN.lp+1} kU (pZ d.kN.kR.kP.ns t):=by rw[f,ai Zd,k]
   refine⟨rfl,?_,?_,?_⟩
   ·show(rK _ _).next=(((nm d.kN p false).Z.length:Nat):Int)+1
    rw[q];omega
   ·show(nm d.kN p false).k6.1<=(rK _ _).mD;rw[b,r];exact hf.2
   ·show rR (rK _ _).mD (nm d.kN p false).kK;rw[b,r];exact hf.1
theorem Q6:∀(f i:Nat) {S:Nat} {N:Int} {d:nh} (p:Nat->Int),nL S N d->xJ d->xJ (yu f i d p)/\(yu f i d p).kN.kK.map (·.call)=d.kN.kK.map (·.call)
 |0,i,S,N,d,p,h,hf=>⟨hf,rfl⟩
 |f+1,i,S,N,d,p,h,hf=>by
  unfold yu;split;·exact⟨hf,rfl⟩
  ·obtain⟨a,b⟩:=Q6 f (i+1) p (h.step (p i)) (hf.step h (p i));obtain⟨ng,c⟩:=Q3 d (p i);exact⟨a,by rw[b,c];exact(HD d.kN _ ng).BC⟩
end
end Go.Proofs.YtkbifmngmocjnaaGreatDoor
