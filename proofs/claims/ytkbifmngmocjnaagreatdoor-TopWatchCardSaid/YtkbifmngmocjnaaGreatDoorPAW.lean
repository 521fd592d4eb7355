/- Proved here, packed: what the parts Stgk Stgl Lcoi Lful prove (rules of the walk, contracts of functions, plain laws). Conditions: in each statement. -/
import Derived.Test.YtkbifmngmocjnaaGreatDoorPAV
namespace Go.Proofs.YtkbifmngmocjnaaGreatDoor
set_option maxRecDepth 100000
set_option maxHeartbeats 8000000
set_option linter.all false
section
open Top Proofs.Tryz
structure y5(j:Nat)(t:lr):Prop where
 lA:t.lA.length<=50000+j
 ll:t.lM.ll.length<=1000000
 l9:t.lM.l9.length<=1000000
 path:t.call.path.length<=1000000000
 pos:0<=t.pos/\t.pos<=500000+j
theorem y5.FE{j:Nat}{t:lr}(h:y5 j t)(l:Int):y5 (j+1) (mO t (1,l)):=by have hp:=h.pos;have a:=h.lA;unfold mO;rw[aj rfl];refine⟨by simp;omega,h.ll,h.l9,h.path,?_⟩;dsimp only;split<;>omega
theorem y5.up{j:Nat}{t:lr}(h:y5 j t):y5 (j+1) t:=⟨by have:=h.lA;omega,h.ll,h.l9,h.path,by have:=h.pos;omega⟩
theorem y5.bd{j:Nat}{t:lr}(h:y5 j t)(a:j<=50000):yU t:=⟨by have:=h.lA;omega,h.ll,h.l9,h.path,by have:=h.pos;omega⟩
theorem Z9{l:List lr}{n:Int}{f:lr->lr}{t:lr}(h:t∈r8 l n f):t∈l\/∃y∈l,t=f y:=by
 unfold r8 at h;split at h;·exact KN h
 ·exact .inl h
theorem QK:∀(a:List (Int×Int)) (j:Nat) (s:lD),(∀t∈s.kK,y5 j t)->∀t∈(a.foldl ri s).kK,y5 (j+a.length) t
 |[],j,s,h=>h
 |p::a,j,s,h=>by
  rw[bU];have:=QK a (j+1) (ri s p) (λt c=>by
   rcases Z9 c with b|⟨y,b,rfl⟩;·exact(h t b).up
   ·exact(h y b).FE _)
  rw[show j+(p::a).length=j+1+a.length from by simp;omega];exact this
theorem aaa(t:nt)(n:Int):(u6 t n).2.length<=t.1.length:=by
 have:∀(l:List (Int×Int)) (s:nt×List (Int×Int)),(l.foldl (vI n) s).2.length<=s.2.length+l.length:=by
  intro l;induction l with
  |nil=>intro s;simp
  |cons a l b=>
   intro s;rw[bU];have c:=b (vI n s a);have d:(vI n s a).2.length<=s.2.length+1:=by
    unfold vI;split;·split<;>simp
    ·omega
   simp only[aG];omega
 have:=this t.1 ((t.1,t.2.filter λw=>!(w.2==n)),[]);unfold u6;simpa using this
theorem aab(kU:Nat)(s:lD)(n:Nat):(rB kU s n).kK.length=s.kK.length:=by
 have b:∀(a:List (Int×Int)) (s:lD),(a.foldl ri s).kK.length=s.kK.length:=by
  intro a;induction a with
  |nil=>intro s;rfl
  |cons p a c=>intro s;rw[bU,c];unfold ri r8;dsimp only;split<;>simp
 unfold rB;split;·split;rw[b];simp
 ·rfl
theorem QL(kU:Nat)(s:lD):∀n:Nat,((List.range n).foldl (rB kU) s).kK.length=s.kK.length
 |0=>rfl
 |n+1=>by rw[dz,bV];exact(aab kU _ n).trans (QL kU s n)
theorem aac{kU n:Nat}{s:lD}(h:Ak s kU n=true):rB kU s n=(u6 s.kW n).2.foldl ri {s with kW:=(u6 s.kW n).1,kK:=s.kK.modify n pD}:=by unfold rB;rw[aj h]
theorem aad{kU n:Nat}{s:lD}(h:Ak s kU n=false):rB kU s n=s:=by unfold rB;rw[ai (by simp[h])]
theorem aae(gs:Nat)(x:lD)(kU:Nat)(u:Int×Int)(H:kM)(ve n vs o q v z B:Value)(A:Option Addr)(c:Nat)(T:List (mB 18))(hv:sh H x ve n vs o q v z B T)(kJ:x.kK.length<=1000)(hB:∀i,i<=x.kK.length->y4 ((List.range i).foldl (rB kU) x)) (W:World) (L:List kM):m3 prog W 137 #[.pointer (some ⟨gs,0,none⟩)] (m4 gs x kU u ve n vs o q v z B A c T H L) (AN gs ((List.range x.kK.length).foldl (rB kU) x) kU u H L):=by
 have nH:=hv.len;unfold m4;refine enter func137 ?_;refine U ?_;intro d;refine U ?_;refine mP (λm σ L'=>∃(i:Nat) (s:lD) (C:kM) (ve n vs o q v z B:Value) (A:Option Addr) (c:Nat) (e:List (mB 18)),m=x.kK.length-i/\i<=x.kK.length/\s=(List.range i).foldl (rB kU) x/\H.le C/\sh C s ve n vs o q v z B e/\
  L'=k4 d 108 [.pointer (some ⟨gs,0,none⟩)]::m4 gs s kU u ve n vs o q v z B A c e C L/\
  ml σ [(1,.pointer (some ⟨d,0,none⟩)),(2,.func (.func 214) #[] #[.pointer (some ⟨d,0,none⟩)]),(14,nN T.length),(15,nN i)]) x.kK.length _ (s1 _)
  ⟨0,x,H,ve,n,vs,o,q,v,z,B,A,c,T,by omega,by omega,rfl,le_refl _,hv,rfl,rfl,rfl,rfl,rfl,trivial⟩ ?_
 clear hv;rintro m σ _ ⟨i,s,V,G,I,J,K,nK,nT,M,N,D,E,e,rfl,hi,Q,kL,g,rfl,kO⟩;obtain⟨oc,rfl⟩:=kO.open;have ou:s.kK.length=x.kK.length:=by rw[Q];exact QL kU x i
 have O:y4 s:=by rw[Q];exact hB i hi
 have ox:=g.len;obtain⟨A4,oN,rfl,_,_⟩:=Zi g.kW.h;obtain⟨A5,o6,rfl,_,_⟩:=Zi g.kW.w;unfold m4;refine U ?_;refine mE rfl (λX=>?_) (λX=>?_)
 ·have X:=am X;have lE:i<x.kK.length:=by omega
  have kQ:i<s.kK.length:=by omega
  have kG:(List.range (i+1)).foldl (rB kU) x=rB kU s i:=by rw[dz,bV,<-Q];rfl
  refine U ?_;refine sm (k1 (k1 (k1 (k1 k0)))) (λC kT o9 W L=>Z8 C d gs s kU i u G I J K _ _ M N D E e (pj (kT _ m0)) (pj (kT _ (m1 m0))) (ra (kT _ (m1 (m1 m0)))) V g kQ (λt R=>(O.kK t R).1.path) W L) ?_;cases lF:Ak s kU i with
  |false=>rw[aad lF] at kG;refine U ?_;exact⟨x.kK.length-(i+1),_,by omega,Zu,i+1,s,V,_,_,_,_,_,_,_,_,D,E,e,rfl,by omega,kG.symm,kL,g,rfl,rfl,rfl,rfl,rfl,trivial⟩
  |true=>
   rw[aac lF] at kG;have pm:=aaa s.kW (i:Int);refine U ?_;refine l4 (hp:=f1 (f1 (f1 f0))) (Vz V _ _ s.kW g.kW (i:Int) O.held O.se) ?_;rintro H2 _ S ⟨_,_,rfl,⟨_,_,rfl,kH⟩,⟨A9,c9,rfl,pr,mq⟩⟩;obtain⟨Y,d1,rfl,_,_⟩:=Zi kH.h;obtain⟨B2,d2,rfl,_,_⟩:=Zi kH.w;have px:=O.held;generalize u6 s.kW (i:Int)=y at*;obtain⟨f,k⟩:=y;dsimp only at*;refine U ?_;intro g4;refine U ?_;refine rM (vs:=[.slice Y f.1.length d1,.slice B2 f.2.length d2]) rfl rfl rfl rfl rfl (p1 (p1 p0)) rfl (λ_=>trivial) rfl ?_;refine U ?_;obtain⟨row,lG⟩:∃r,e[i]? =some r:=⟨_,ad (show i<e.length by omega)⟩;have lH:s.kK[i]? =some s.kK[i]:=ad kQ;have kJ:=g.kK i row _ lG lH;have kX:=(O.kK s.kK[i] (bv kQ)).1;generalize s.kK[i]=t0 at*;have kY:ui H2 row.val t0:=ui.up kJ S;obtain⟨_,_,_,lI,⟨E1,e1,rfl,_⟩,⟨E2,e2,rfl,_⟩,⟨E3,e3,rfl,_⟩⟩:=kJ;obtain⟨val,pC,qr⟩:=row;dsimp only at lI kY;subst lI;have qy:=kX.lA;refine nq [0,1,2,3,4,5,6,7,8,9,10,11,12,13,14,15,16] Zk Zk Zk Zk Zk (λ_ _ _ h=>h) ?_;refine U ?_;refine l4 (hp:=f1 (f1 (f1 (f1 f0)))) (VY H2 _ t0 kY Zo kX.ll kX.l9) ?_;rintro H3 _ F ⟨_,rfl,_,_,_,rfl,⟨C1,kZ,rfl,mF,mG⟩,⟨C2,k5,rfl,mH,mJ⟩,⟨C3,k7,rfl,mU,mW⟩⟩;refine U ?_;refine z7 (l:=e) (i:=i) (y':=⟨qY (pD t0) (.slice C1 (pD t0).lA.length kZ) (.slice C2 (pD t0).lM.ll.length k5) (.slice C3 (pD t0).lM.l9.length k7),rfl,aK.1 rfl⟩) rfl rfl Zo (p1 (p1 (p1 p0))) rfl (λ_=>Sub.of (bu _)) rfl ?_;generalize na:(⟨qY (pD t0) (.slice C1 (pD t0).lA.length kZ) (.slice C2 (pD t0).lM.ll.length k5) (.slice C3 (pD t0).lM.l9.length k7),rfl,aK.1 rfl⟩:mB 18)=kF;have ne:(e.set i kF).length=e.length:=bB;rw[<-ne];have lJ:sh H3 {s with kW:=f,kK:=s.kK.modify i pD} G I J K (.slice Y f.1.length d1) (.slice B2 f.2.length d2) M N (e.set i kF):=⟨g.kR.up (le_trans S F),⟨kH.h.up F,kH.w.up F⟩,g.k6.up (le_trans S F),g.Z.up (le_trans S F),by simp[g.len],AM (λi r y a b=>s7 (le_trans S F) _ _ (g.kK i r y a b)) lH (by rw[<-na];exact⟨_,_,_,rfl,⟨C1,kZ,rfl,mF,mG⟩,⟨C2,k5,rfl,mH,mJ⟩,⟨C3,k7,rfl,mU,mW⟩⟩)⟩;have nl:∀t∈({s with kW:=f,kK:=s.kK.modify i pD}:lD).kK,y5 0 t:=by
    intro t R;rcases KN R with h|⟨t1,h,rfl⟩
    ·obtain⟨d,g2,g3⟩:=O.kK t h;exact⟨g2,d.ll,d.l9,d.path,d.pos.1,g3⟩
    ·obtain⟨d,g2,g3⟩:=O.kK t1 h;exact⟨aR _,d.ll,d.l9,d.path,by simp[pD]⟩
   generalize nw:({s with kW:=f,kK:=s.kK.modify i pD}:lD)=s2 at*;have lK:rQ s2 kU u G I J K (.slice Y f.1.length d1) (.slice B2 f.2.length d2) M (.slice D (e.set i kF).length E) N=rQ {s with kW:=f} kU u G I J K (.slice Y f.1.length d1) (.slice B2 f.2.length d2) M (.slice D (e.set i kF).length E) N:=by rw[<-nw];rfl
   have nz:=mq.up F;refine U ?_;refine SC.mL (L':=k4 d 108 [.pointer (some ⟨gs,0,none⟩)]::m4 gs s2 kU u G I J K (.slice Y f.1.length d1) (.slice B2 f.2.length d2) M N D E (e.set i kF) H3 L) (λw P=>by unfold m4;rw[lK];exact P.tail) ?_;refine mP (λm σ L'=>∃(j:Nat) (s3:lD) (C:kM) (ve n vs o q v z B:Value) (A:Option Addr) (c:Nat) (e:List (mB 18)),m=k.length-j/\j<=k.length/\s3=(k.take j).foldl ri s2/\H3.le C/\sh C s3 ve n vs o q v z B e/\
    L'=k4 d 108 [.pointer (some ⟨gs,0,none⟩)]::m4 gs s3 kU u ve n vs o q v z B A c e C L/\
    ml σ [(1,.pointer (some ⟨d,0,none⟩)),(2,.func (.func 214) #[] #[.pointer (some ⟨d,0,none⟩)]),(14,nN T.length),(15,nN i),(53,.slice A9 k.length c9),(54,nN k.length),(55,nN j)]) k.length _ (s1 _)
    ⟨0,s2,H3,_,_,_,_,_,_,_,_,D,E,_,by omega,by omega,rfl,le_refl _,lJ,rfl,rfl,rfl,rfl,rfl,rfl,rfl,rfl,trivial⟩ ?_
   clear lJ lK lG kY;rintro m σ _ ⟨j,s3,H4,k8,k9,lc,lg,lh,lm,lq,lu,A4,c4,lx,rfl,hj,kI,ly,lO,rfl,kO⟩;obtain⟨qF,rfl⟩:=kO.open;unfold m4;refine U ?_;refine mE rfl (λlz=>?_) (λlz=>?_)
   ·(have lB:j<k.length:=by have:=am lz;omega);obtain⟨p,hp⟩:∃p,k[j]? =some p:=⟨_,ad lB⟩;have nB:(k.take (j+1)).foldl ri s2=ri s3 p:=by rw[aT,hp,kI,bV];rfl
    (have rn:=nz.up ly;have nC:∀t∈s3.kK,yU t:=by intro t R;rw[kI] at R;refine(QK (k.take j) 0 s2 nl t R).bd ?_;rw[aC];omega);refine U ?_;intro g7;refine U ?_;refine SL.mL (L':=m4 gs s3 kU u k8 k9 lc lg lh lm lq lu A4 c4 lx H4 (k4 d 108 [.pointer (some ⟨gs,0,none⟩)]::L)) (λw P=>by unfold m4;exact P.pick 5 [2,3,4,1] Zd) ?_;refine nR (QH gs s3 kU u p H4 k8 k9 lc lg lh lm lq lu A4 c4 lx lO nC W _) ?_;rintro _ _ ⟨rfl,H5,lS,lT,lV,lY,l7,ma,mb,mg,A5,c5,mh,nD,nF,rfl⟩;refine SL.mL (L':=k4 d 108 [.pointer (some ⟨gs,0,none⟩)]::m4 gs (ri s3 p) kU u lS lT lV lY l7 ma mb mg A5 c5 mh H5 L) (λw P=>by unfold m4 at*;exact P.pick 4 [3,0,1,2] Zd) ?_;unfold m4;refine U ?_;exact⟨k.length-(j+1),_,by omega,s1 _,j+1,ri s3 p,H5,lS,lT,lV,lY,l7,ma,mb,mg,A5,c5,mh,rfl,by omega,nB.symm,le_trans ly nD,nF,rfl,rfl,rfl,rfl,rfl,rfl,rfl,rfl,trivial⟩
   ·(have lB:j=k.length:=by have:=av lz;omega);rw[lB,bf,<-kG] at kI;refine U ?_;exact⟨x.kK.length-(i+1),_,by omega,s1 _,i+1,s3,H4,k8,k9,lc,lg,lh,lm,lq,lu,A4,c4,lx,rfl,by omega,kI,le_trans kL (le_trans S (le_trans F ly)),lO,rfl,rfl,rfl,rfl,rfl,trivial⟩
 ·have X:=av X;have lE:i=x.kK.length:=by omega
  rw[lE] at Q;refine U ?_;exact qD results137 (L':=m4 gs s kU u G I J K _ _ M N D E e V L) (λw P=>P.tail) ⟨rfl,V,G,I,J,K,_,_,M,N,D,E,e,kL,by rw[<-Q];exact g,by rw[<-Q]⟩
def Ek(s:lD)(kU:Nat)(u:Int×Int)(t:lr):lD:={s with kR:=(py s.kR t.call).1,Z:=s.Z++(py s.kR t.call).2.2,kK:=s.kK.modify kU λt'=>mO {t' with lM:=(py s.kR t.call).2.1,mark:=s.lp,mV:=((s.Z++(py s.kR t.call).2.2).length:Nat)} u}
theorem aaf(s:lD)(kU:Nat)(u:Int×Int)(t:lr)(a:s.kK[kU]? =some t):qJ s kU u=if t.call.kind=13/\(py s.kR t.call).2.1.err=0 then(List.range s.kK.length).foldl (rB kU) (Ek s kU u t) else Ek s kU u t:=by unfold qJ;rw[a];rfl
theorem aag(gs:Nat)(x:lD)(kU:Nat)(u:Int×Int)(H:kM)(ve vn vs vw vh va vg vo:Value)(A:Option Addr)(c:Nat)(n:List (mB 18))(D:sh H x ve vn vs vw vh va vg vo n)(hC:y4 x)(CG:x.kK.length<=1000)(t0:lr)(kH:x.kK[kU]? =some t0){N:Int}(hM:p6 N x.kR)(hN:N<=100000000)(nz:yd t0.call)(CJ:x.Z.length<=100000)(hB:t0.call.kind=13->(py x.kR t0.call).2.1.err=0->∀i,i<=x.kK.length->y4 ((List.range i).foldl (rB kU) (Ek x kU u t0))) (W:World) (L:List kM):m3 prog W 72 #[.pointer (some ⟨gs,0,none⟩)] (m4 gs x kU u ve vn vs vw vh va vg vo A c n H L) (AN gs (qJ x kU u) kU u H L):=by
 have Dg:kU<x.kK.length:=(ax.1 kH).1;have lm:=(hC.kK t0 (ar kH)).1;have lz:kU<n.length:=by have:=D.len;omega
 obtain⟨row,lB⟩:∃r,n[kU]? =some r:=⟨_,ad lz⟩;have lE:=D.kK kU row t0 lB kH;have hD:=Hm hM t0.call;have hW:=Kp hM t0.call;have X:=aaf x kU u t0 kH;have DA:=D.len;obtain⟨A0,nB,rfl,_,_⟩:=Zi D.kR.kP.es;obtain⟨A1,nC,rfl,_,_⟩:=Zi D.kR.kP.ns.sl;obtain⟨A2,nD,r2,rfl,_⟩:=Zi D.kR.lN;obtain⟨A3,nF,r3,rfl,_⟩:=Zi D.kR.l3;obtain⟨A8,lq,rfl,_,nH⟩:=Zi D.Z;obtain⟨_,_,_,lF,⟨E1,e1,rfl,nK,nT⟩,⟨E2,e2,rfl,Ey,Ez⟩,⟨E3,e3,rfl,GD,HL⟩⟩:=Zi lE;obtain⟨val,oc,ou⟩:=row;dsimp only at lF lE;subst lF;have kI:=QA x.kR t0.call H _ _ _ _ D.kR (hM.bd Zo) nz (λ_=>hW.i.bd Zo);have ox:=hD.ll;have oN:=hD.l9;have o6:=hD.i.len;have o9:=hD.len;unfold Ek at hB X;generalize py x.kR t0.call=y at*;obtain⟨m,a,Z⟩:=y;dsimp only at ox oN o9 o6 X hB;unfold m4;refine enter func72 ?_;refine U ?_;refine nq [0,1,2,3,4,5,6,7,8,9,10] Zk Zk Zk Zk Zk (λ_ _ _ h=>h) ?_;refine U ?_;refine wM (λpm L'=>∃E C o lG lH lI lJ lK lO lS,H.le o/\sH o m lG lH lI lJ/\tP o a lK lO/\Sl 7 nA o lS Z/\
  (∀w,Mem W w L'->Mem W w (k4 C 62 (sS a lK lO)::k4 E 31 (sG m lG lH lI lJ)::k4 gs 112 (rQ x kU u (.slice A0 x.kR.kP.es.length nB) (.slice A1 x.kR.kP.ns.length nC) (.slice A3 r3.length nF) (.slice A2 r2.length nD) vh va vg (.slice A n.length c) (.slice A8 x.Z.length lq))::li 64 18 mB.val A c n::fz o::L))/\
  ml pm [(0,.pointer (some ⟨gs,0,none⟩)),(2,.pointer (some (pM A 18 kU 0))),(3,.pointer (some ⟨E,0,none⟩)),(4,.pointer (some ⟨C,0,none⟩)),(5,lS)]) ?_ ?_
 ·refine qN [] (lC.Z [0,1,2,3,4,5,6,7,8] (.o8 (lC.Z [9,10,11,12,13] (.o8 (lC.Z [14,15,16,17,18] .mZ) (lC.Z [15,14,16,17,18] .mZ))) (.o8 (lC.Z [14] (.o8 (lC.Z [9,10,11,12,13,15,16,17,18] .mZ) (lC.Z [15,9,10,11,12,13,16,17,18] .mZ))) (lC.Z [15] (.o8 (lC.Z [9,10,11,12,13,14,16,17,18] .mZ) (lC.Z [14,9,10,11,12,13,16,17,18] .mZ)))))) Zk Zk Zk Zk (λ_ _ _ h=>h) (.of Zu) ?_;refine mM _ _ _ _ Zk ?_;refine U ?_;refine ta ?_ (ta ?_ ?_)
  ·refine mM _ _ _ _ Zk ?_;refine l4 (hp:=f1 (f1 f0)) kI ?_;rintro o _ F ⟨_,_,_,rfl,⟨_,_,_,_,rfl,d⟩,⟨_,_,rfl,g⟩,k⟩;dsimp only at d g k;obtain⟨I,J,rfl,_,_⟩:=Zi d.kP.es;obtain⟨K,M,rfl,_,_⟩:=Zi d.kP.ns.sl;obtain⟨O,P,Q,rfl,_⟩:=Zi d.lN;obtain⟨R,S,T,rfl,_⟩:=Zi d.l3;obtain⟨p,q,rfl,_,_⟩:=Zi g.ll;obtain⟨z,B,rfl,_,_⟩:=Zi g.l9;obtain⟨B6,d6,rfl,_,_⟩:=Zi k;refine U ?_;refine ta ?_ ?_;·refine mM _ _ _ _ Zk ?_;refine U ?_;intro E;refine U ?_;intro C;refine U ?_;exact⟨E,C,o,_,_,_,_,_,_,_,F,d,g,k,λw G=>G,rfl,rfl,rfl,rfl,rfl,trivial⟩
   ·refine mM _ _ _ _ Zk ?_;refine U ?_;intro C;refine U ?_;intro E;refine U ?_;exact⟨E,C,o,_,_,_,_,_,_,_,F,d,g,k,λw G=>G.ny (bX _ _ _),rfl,rfl,rfl,rfl,rfl,trivial⟩
  ·refine mM _ _ _ _ Zk ?_;refine U ?_;intro E;refine U ?_;refine ta ?_ ?_;·refine mM _ _ _ _ Zk ?_;refine l4 (hp:=f1 (f1 (f1 f0))) kI ?_;rintro o _ F ⟨_,_,_,rfl,⟨_,_,_,_,rfl,d⟩,⟨_,_,rfl,g⟩,k⟩;dsimp only at d g k;obtain⟨I,J,rfl,_,_⟩:=Zi d.kP.es;obtain⟨K,M,rfl,_,_⟩:=Zi d.kP.ns.sl;obtain⟨O,P,Q,rfl,_⟩:=Zi d.lN;obtain⟨R,S,T,rfl,_⟩:=Zi d.l3;obtain⟨p,q,rfl,_,_⟩:=Zi g.ll;obtain⟨z,B,rfl,_,_⟩:=Zi g.l9;obtain⟨B6,d6,rfl,_,_⟩:=Zi k;refine U ?_;intro C;refine U ?_;exact⟨E,C,o,_,_,_,_,_,_,_,F,d,g,k,λw G=>G,rfl,rfl,rfl,rfl,rfl,trivial⟩
   ·refine mM _ _ _ _ Zk ?_;refine U ?_;intro C;refine U ?_;refine l4 (hp:=f1 (f1 (f1 (f1 f0)))) kI ?_;rintro o _ F ⟨_,_,_,rfl,⟨_,_,_,_,rfl,d⟩,⟨_,_,rfl,g⟩,k⟩;dsimp only at d g k;obtain⟨I,J,rfl,_,_⟩:=Zi d.kP.es;obtain⟨K,M,rfl,_,_⟩:=Zi d.kP.ns.sl;obtain⟨O,P,Q,rfl,_⟩:=Zi d.lN;obtain⟨R,S,T,rfl,_⟩:=Zi d.l3;obtain⟨p,q,rfl,_,_⟩:=Zi g.ll;obtain⟨z,B,rfl,_,_⟩:=Zi g.l9;obtain⟨B6,d6,rfl,_,_⟩:=Zi k;refine U ?_;exact⟨E,C,o,_,_,_,_,_,_,_,F,d,g,k,λw G=>G,rfl,rfl,rfl,rfl,rfl,trivial⟩
  ·refine mM _ _ _ _ Zk ?_;refine U ?_;intro C;refine U ?_;refine ta ?_ ?_;·refine mM _ _ _ _ Zk ?_;refine l4 (hp:=f1 (f1 (f1 f0))) kI ?_;rintro o _ F ⟨_,_,_,rfl,⟨_,_,_,_,rfl,d⟩,⟨_,_,rfl,g⟩,k⟩;dsimp only at d g k;obtain⟨I,J,rfl,_,_⟩:=Zi d.kP.es;obtain⟨K,M,rfl,_,_⟩:=Zi d.kP.ns.sl;obtain⟨O,P,Q,rfl,_⟩:=Zi d.lN;obtain⟨R,S,T,rfl,_⟩:=Zi d.l3;obtain⟨p,q,rfl,_,_⟩:=Zi g.ll;obtain⟨z,B,rfl,_,_⟩:=Zi g.l9;obtain⟨B6,d6,rfl,_,_⟩:=Zi k;refine U ?_;intro E;refine U ?_;exact⟨E,C,o,_,_,_,_,_,_,_,F,d,g,k,λw G=>G.ny (bX _ _ _),rfl,rfl,rfl,rfl,rfl,trivial⟩
   ·refine mM _ _ _ _ Zk ?_;refine U ?_;intro E;refine U ?_;refine l4 (hp:=f1 (f1 (f1 (f1 f0)))) kI ?_;rintro o _ F ⟨_,_,_,rfl,⟨_,_,_,_,rfl,d⟩,⟨_,_,rfl,g⟩,k⟩;dsimp only at d g k;obtain⟨I,J,rfl,_,_⟩:=Zi d.kP.es;obtain⟨K,M,rfl,_,_⟩:=Zi d.kP.ns.sl;obtain⟨O,P,Q,rfl,_⟩:=Zi d.lN;obtain⟨R,S,T,rfl,_⟩:=Zi d.l3;obtain⟨p,q,rfl,_,_⟩:=Zi g.ll;obtain⟨z,B,rfl,_,_⟩:=Zi g.l9;obtain⟨B6,d6,rfl,_,_⟩:=Zi k;refine U ?_;exact⟨E,C,o,_,_,_,_,_,_,_,F,d,g,k,λw G=>G.ny (bX _ _ _),rfl,rfl,rfl,rfl,rfl,trivial⟩
 rintro _ L' ⟨E,C,o,_,_,_,_,_,_,_,F,d,g,k,lT,pr⟩;obtain⟨HQ,rfl⟩:=pr.open;refine SC.mL lT ?_;clear lT kI;obtain⟨I,J,rfl,_,_⟩:=Zi d.kP.es;obtain⟨K,M,rfl,_,_⟩:=Zi d.kP.ns.sl;obtain⟨O,P,Q,rfl,_⟩:=Zi d.lN;obtain⟨R,S,T,rfl,_⟩:=Zi d.l3;obtain⟨p,q,rfl,px,pC⟩:=Zi g.ll;obtain⟨z,B,rfl,qr,qy⟩:=Zi g.l9;obtain⟨B6,d6,rfl,_,qF⟩:=Zi k;refine U ?_;refine rM (vs:=sG m (.slice I m.kP.es.length J) (.slice K m.kP.ns.length M) (.slice R T.length S) (.slice O Q.length P)) rfl rfl rfl rfl rfl (p1 (p1 p0)) rfl (λ_=>trivial) rfl ?_;refine U ?_;intro rn;refine U ?_;refine tI (hf:=f1 (f1 (f1 (f1 f0)))) o0 ?_;intro H2 lc lV;refine ov (ZV H2 (some ⟨rn,0,none⟩) 2 [⟨A8,lq,x.Z⟩,⟨B6,d6,Z⟩] Zs (by simp[uS];omega) (uf lV rfl) (λs hs=>by
  rcases aJ.1 hs with rfl|hs;·exact(nH.up F).up lc
  ·rw[aE.1 hs];exact qF.up lc)) ?_
 rintro _ _ ⟨A9,c9,rfl,rfl⟩;rw[show uS [⟨A8,lq,x.Z⟩,⟨B6,d6,Z⟩]=x.Z++Z from by simp[uS]];simp only[aD];refine L5 (hf:=f1 (f1 (f1 (f1 f0)))) o0 ?_;intro H3 lY rq rD;have HR:(x.Z++Z).length<=1000000:=by simp;omega
 have HS:((x.Z++Z).length:Int)=(x.Z.length:Int)+(Z.length:Int):=by simp
 have kJ:=le_trans F (le_trans lc lY);clear lV;generalize HT:x.Z++Z=f at*;refine U ?_;generalize rG:(⟨_,oc,ou⟩:mB 18)=Y at*;have sL:Y.val=qY t0 (.slice E1 t0.lA.length e1) (.slice E2 t0.lM.ll.length e2) (.slice E3 t0.lM.l9.length e3):=by rw[<-rG]
 refine QJ (l:=n) (i:=kU) (j:=13) (y:=Y) (y':=Y.fill 13 (sS a (.slice p a.ll.length q) (.slice z a.l9.length B)) (aA 18) rfl) (vs:=sS a (.slice p a.ll.length q) (.slice z a.l9.length B)) rfl rfl rfl rfl lB rfl (aA 18) (p1 (p1 (p1 p0))) rfl (λ_=>trivial) rfl ?_;have tH:(n.set kU (Y.fill 13 (sS a (.slice p a.ll.length q) (.slice z a.l9.length B)) (aA 18) rfl)).length=n.length:=bB;have uW:(n.set kU (Y.fill 13 (sS a (.slice p a.ll.length q) (.slice z a.l9.length B)) (aA 18) rfl))[kU]? =some (Y.fill 13 (sS a (.slice p a.ll.length q) (.slice z a.l9.length B)) (aA 18) rfl):=cB lz;have u9:(Y.fill 13 (sS a (.slice p a.ll.length q) (.slice z a.l9.length B)) (aA 18) rfl).val=qY {t0 with lM:=a} (.slice E1 t0.lA.length e1) (.slice p a.ll.length q) (.slice z a.l9.length B):=by show qC Y.val 13 _=_;rw[sL];rfl
 generalize Y.fill 13 (sS a (.slice p a.ll.length q) (.slice z a.l9.length B)) (aA 18) rfl=V at*;have vi:∀r,(n.set kU V).set kU r=n.set kU r:=λr=>jw _;generalize Iq:n.set kU V=lg at*;rw[<-tH];refine U ?_;refine wN (l:=lg) (i:=kU) (j:=11) (y:=V) (y':=V.put 11 (nI x.lp) rfl) (v:=nI x.lp) rfl rfl rfl uW rfl Zd (p1 (p1 (p1 p0))) rfl (λ_=>trivial) rfl ?_;have vA:(lg.set kU (V.put 11 (nI x.lp) rfl)).length=lg.length:=bB;have vK:(lg.set kU (V.put 11 (nI x.lp) rfl))[kU]? =some (V.put 11 (nI x.lp) rfl):=cB Zo;have vN:(V.put 11 (nI x.lp) rfl).val=qY {t0 with lM:=a,mark:=x.lp} (.slice E1 t0.lA.length e1) (.slice p a.ll.length q) (.slice z a.l9.length B):=by show V.val.set 11 _=_;rw[u9];rfl
 generalize V.put 11 (nI x.lp) rfl=kF at*;rw[vi] at*;have xM:∀r,(n.set kU kF).set kU r=n.set kU r:=λr=>jw _;generalize Ir:n.set kU kF=lu at*;rw[<-vA];refine U ?_;refine wN (l:=lu) (i:=kU) (j:=9) (y:=kF) (y':=kF.put 9 (nN f.length) rfl) (v:=nN f.length) rfl rfl rfl vK rfl Zd (p1 (p1 (p1 p0))) rfl (λ_=>trivial) rfl ?_;have xZ:(lu.set kU (kF.put 9 (nN f.length) rfl)).length=lu.length:=bB;have yF:(kF.put 9 (nN f.length) rfl).val=qY {t0 with lM:=a,mark:=x.lp,mV:=(f.length:Nat)} (.slice E1 t0.lA.length e1) (.slice p a.ll.length q) (.slice z a.l9.length B):=by show kF.val.set 9 _=_;rw[vN];rfl
 generalize kF.put 9 (nN f.length) rfl=lh at*;rw[xM] at*;rw[<-xZ];refine U ?_;have lx:=le_trans lc lY;have y7:sh H3 {x with kR:=m,Z:=f,kK:=x.kK.modify kU λt=>{t with lM:=a,mark:=x.lp,mV:=(f.length:Nat)}} (.slice I m.kP.es.length J) (.slice K m.kP.ns.length M) (.slice R T.length S) (.slice O Q.length P) vh va vg (.slice A9 f.length c9) (n.set kU lh):=⟨d.up lx,⟨D.kW.h.up kJ,D.kW.w.up kJ⟩,D.k6.up kJ,⟨A9,c9,rfl,rD,rq⟩,by simp[D.len],AM (λi r y a b=>s7 kJ _ _ (D.kK i r y a b)) kH ⟨_,_,_,yF,⟨E1,e1,rfl,nK,nT.up kJ⟩,(⟨p,q,rfl,px,pC.up lx⟩:Sl 1 ni H3 _ a.ll),(⟨z,B,rfl,qr,qy.up lx⟩:Sl 2 nY H3 _ a.l9)⟩⟩;have l7:(x.kK.modify kU λt=>{t with lM:=a,mark:=x.lp,mV:=(f.length:Nat)})[kU]? =some {t0 with lM:=a,mark:=x.lp,mV:=(f.length:Nat)}:=by rw[bM,kH];simp
 have zE:yU {t0 with lM:=a,mark:=x.lp,mV:=(f.length:Nat)}:=⟨lm.lA,by dsimp only;omega,by dsimp only;omega,lm.path,lm.pos⟩;have ma:uT {x with kR:=m,Z:=f,kK:=x.kK.modify kU λt=>{t with lM:=a,mark:=x.lp,mV:=(f.length:Nat)}} kU u={x with kR:=m,Z:=f,kK:=x.kK.modify kU λt=>mO {t with lM:=a,mark:=x.lp,mV:=(f.length:Nat)} u}:=by unfold uT;dsimp only;rw[gc];rfl
 generalize mb:({x with kR:=m,Z:=f,kK:=x.kK.modify kU λt=>{t with lM:=a,mark:=x.lp,mV:=(f.length:Nat)}}:lD)=xA at*;have zM:xA.kK=x.kK.modify kU λt=>{t with lM:=a,mark:=x.lp,mV:=(f.length:Nat)}:=by rw[<-mb]
 rw[<-zM] at l7;have zT:rQ xA kU u (.slice I m.kP.es.length J) (.slice K m.kP.ns.length M) (.slice R T.length S) (.slice O Q.length P) vh va vg (.slice A (n.set kU lh).length c) (.slice A9 f.length c9)=[.slice I m.kP.es.length J,.slice K m.kP.ns.length M,nI m.seen,nI m.mC,.slice R T.length S,.slice O Q.length P,nI m.next,vh,va,nI x.k6.1,vg,.slice A (n.set kU lh).length c,nI x.lp,.slice A9 f.length c9,nN kU,nI u.1,nI u.2]:=by rw[<-mb];rfl
 refine SL.mL (L':=m4 gs xA kU u (.slice I m.kP.es.length J) (.slice K m.kP.ns.length M) (.slice R T.length S) (.slice O Q.length P) vh va vg (.slice A9 f.length c9) A c (n.set kU lh) H3 (k4 C 62 (sS a (.slice p a.ll.length q) (.slice z a.l9.length B))::L)) (λw G=>by unfold m4;rw[zT];exact G.pick 5 [2,3,4,0] Zd) ?_;refine nR (Hy gs xA kU u H3 _ _ _ _ vh va vg _ A c _ y7 _ l7 zE W _) ?_;rintro _ _ ⟨rfl,H4,kL,kO,kQ,kT,kX,kY,kZ,k5,A4,c4,kG,zU,k7,rfl⟩;rw[ma] at k7;rw[ma];have zZ:({x with kR:=m,Z:=f,kK:=x.kK.modify kU λt=>mO {t with lM:=a,mark:=x.lp,mV:=(f.length:Nat)} u}:lD).kK.length=x.kK.length:=by simp
 have Ad:({x with kR:=m,Z:=f,kK:=x.kK.modify kU λt=>mO {t with lM:=a,mark:=x.lp,mV:=(f.length:Nat)} u}:lD).kK[kU]? =some (mO {t0 with lM:=a,mark:=x.lp,mV:=(f.length:Nat)} u):=by show(x.kK.modify kU _)[kU]? =_;rw[bM,kH];simp
 generalize K1:({x with kR:=m,Z:=f,kK:=x.kK.modify kU λt=>mO {t with lM:=a,mark:=x.lp,mV:=(f.length:Nat)} u}:lD)=xB at*;have mg:(mO {t0 with lM:=a,mark:=x.lp,mV:=(f.length:Nat)} u).call=t0.call:=by
  unfold mO;split;·rfl
  ·split;·rfl
   ·split;·rfl
    ·split<;>rfl
 generalize mO {t0 with lM:=a,mark:=x.lp,mV:=(f.length:Nat)} u=tB at*;have Ao:kU<kG.length:=by have:=k7.len;omega
 obtain⟨mh,Bw⟩:∃r,kG[kU]? =some r:=⟨_,ad Ao⟩;obtain⟨_,_,_,mq,⟨F1,K4,rfl,_⟩,⟨F2,OE,rfl,_⟩,⟨F3,Ph,rfl,_⟩⟩:=k7.kK kU mh tB Bw Ad;obtain⟨Ra,Ri,Ss⟩:=mh;dsimp only at mq;subst mq;have ly:=le_trans kJ zU;unfold m4;refine U ?_;refine nq [0,1,2,3,4,5,6,7,8,9,10,11,12,13,14,15,16,17,18] Zk Zk Zk Zk Zk (λ_ _ _ h=>h) ?_;refine U ?_;by_cases k8:t0.call.kind=13
 ·rw[show(tB.call.kind==13)=true from by rw[mg];simpa using k8];refine U ?_;by_cases k9:a.err=0;·rw[show(a.err==0)=true from by simpa using k9];rw[aj ⟨k8,k9⟩] at X;have BD:=hB k8 k9;refine U ?_;rw[<-zZ] at X;refine SL.mL (L':=m4 gs xB kU u kL kO kQ kT kX kY kZ k5 A4 c4 kG H4 L) lv ?_;refine nR (aae gs xB kU u H4 kL kO kQ kT kX kY kZ k5 A4 c4 kG k7 Zo (λi hi=>BD i Zo) W L) ?_;rintro _ _ ⟨rfl,H5,mF,mG,mH,mJ,mU,mW,na,ne,A5,c5,nl,Ci,nw,rfl⟩;rw[<-X] at nw⊢;unfold m4;refine U ?_;exact qD results72 (L':=m4 gs (qJ x kU u) kU u mF mG mH mJ mU mW na ne A5 c5 nl H5 L) lv ⟨rfl,H5,mF,mG,mH,mJ,mU,mW,na,ne,A5,c5,nl,le_trans ly Ci,nw,rfl⟩
  ·rw[show(a.err==0)=false from by simpa using k9];refine U ?_;exact qD results72 (L':=m4 gs xB kU u kL kO kQ kT kX kY kZ k5 A4 c4 kG H4 L) lv ⟨rfl,H4,kL,kO,kQ,kT,kX,kY,kZ,k5,A4,c4,kG,ly,by rw[X,ai (λe=>k9 e.2)];exact k7,by rw[X,ai (λe=>k9 e.2)]⟩
 ·rw[show(tB.call.kind==13)=false from by rw[mg];simpa using k8];refine U ?_;exact qD results72 (L':=m4 gs xB kU u kL kO kQ kT kX kY kZ k5 A4 c4 kG H4 L) lv ⟨rfl,H4,kL,kO,kQ,kT,kX,kY,kZ,k5,A4,c4,kG,ly,by rw[X,ai (λe=>k8 e.1)];exact k7,by rw[X,ai (λe=>k8 e.1)]⟩
end
namespace Top
open YtkbifmngmocjnaaGreatDoor
theorem pP.aah{X:Nat->Prop}{ns:List la}{kW:nt}{kK:List lr}(h:pP X ns kW kK)(hl:kK.length<=40):kW.1.length<=120/\kW.2.length<=40/\∀t∈kK,t.lA.length<=3/\0<=t.pos/\t.pos<=16:=by
 have g:∀(k:Nat) (t:lr),kK[k]? =some t->t.lA.length<=3/\0<=t.pos/\t.pos<=16:=by
  intro k t c;obtain⟨d,i,f⟩:=h.bd k t c;rcases Ho kW k t with⟨_,e⟩|⟨l,_,e⟩<;>rw[e] at d f
  ·exact⟨d,i,f⟩
  ·rw[Hq] at d f;simp only[ak,aG,bm] at d f;refine⟨by omega,i,?_⟩;split at f<;>omega
 refine⟨?_,?_,λt c=>by obtain⟨k,j⟩:=AL c;exact g k t j⟩
 ·have lL:∀n:Nat,((List.range n).flatMap λk:Nat=>(sf kK (k:Int)).map λl=>(l,(k:Int))).length<=3*n:=by
   intro n;induction n with
   |zero=>simp
   |succ n o=>
    rw[dz,bD,ak];have:(sf kK (n:Int)).length<=3:=by
     rw[Fu];cases c:kK[n]? with
     |none=>simp
     |some t=>exact(g n t c).1
    simp only[bj,ii,aP,bO];omega
  have:=Cu (a:=kW.1) (b:=(List.range kK.length).flatMap λk:Nat=>(sf kK (k:Int)).map λl=>(l,(k:Int))) (Kr h.lk.one) (λp hp=>by obtain⟨l,n⟩:=p;have d:=(h.lk.qB l n).1 hp;obtain⟨k,t,rfl,c,q⟩:=Ks d;exact cW.2 ⟨k,d8.2 (ax.1 c).1,aU.2 ⟨l,d,rfl⟩⟩);have:=lL kK.length;omega
 ·have:=Cu (a:=kW.2.map (·.2)) (b:=(List.range kK.length).map λk:Nat=>(k:Int)) h.lk.yi (λn m=>by obtain⟨p,hp,rfl⟩:=aU.1 m;obtain⟨k,t,e,c,_⟩:=h.tQ p.1 p.2 hp;exact aU.2 ⟨k,d8.2 (ax.1 c).1,e.symm⟩);simp only[bO,fR] at this;omega
theorem QN{X:Nat->Prop}{ns:List la}{s:lD}(h:pP X ns s.kW s.kK)(hl:s.kK.length<=40)(b:s.k6.2.length<=50000)(c:∀t∈s.kK,yd t.call/\t.lM.ll.length<=10000/\t.lM.l9.length<=100):y4 s:=by obtain⟨f,g,d⟩:=h.aah hl;refine⟨λt a=>?_,by omega,by omega,b⟩;obtain⟨e,i,j⟩:=c t a;have:=d t a;have hp:=e.path;exact⟨⟨by omega,by omega,by omega,by omega,by omega⟩,by omega,by omega⟩
theorem m5.QO{C:Nat}{N:Int}{x:lD}(h:m5 C N x):x.k6.2.length<=40:=by have:=Cu (a:=x.k6.2.map (·.1)) (b:=(List.range x.kK.length).map λk:Nat=>(k:Int)) h.AK (λn c=>by obtain⟨p,hp,rfl⟩:=aU.1 c;obtain⟨_,_,k,t,e,d,_⟩:=h.k6 p hp;exact aU.2 ⟨k,d8.2 (ax.1 d).1,e.symm⟩);simp only[bO,fR] at this;have:=h.tz;omega
theorem m5.QP{C:Nat}{N:Int}{x:lD}(h:m5 C N x):y4 x:=QN h.nU h.tz (by have:=h.QO;omega) (λt a=>⟨(h.kK t a).call,(h.kK t a).ll,(h.kK t a).l9⟩)
theorem m5.mid{C:Nat}{N:Int}{x:lD}(h:m5 C N x){n:Nat}{t:lr}(g:x.kK[n]? =some t)(O:t.mS=false)(I:t.done=false)(J:pl x.kW (n:Int)=none){l:Int}(P:pZ x.kR.kP.ns t=(3,l))(kO:t.call.kind=13)(Q:(py x.kR t.call).2.1.err=0)(i:Nat):y4 ((List.range i).foldl (rB n) (Ek {x with lp:=x.lp+1} n (3,l) t)):=by
 have K:=h.nU.ok n t g I (λe=>e);rw[rP J] at K;have R:=Qh K I O P;have z:=Hm h.kR t.call;have S:=h.kK t (ar g);have kQ:=h.QO;have T:nf t.call=.pT->t.lA=ry x.kR.kP.ns t.call:=by
  intro e;rcases R with⟨d,_⟩|⟨_,d⟩|⟨_,_,d,_⟩
  ·rw[e] at d;cases d
  ·exact d
  ·rw[e] at d;cases d
 unfold Ek;dsimp only;generalize py x.kR t.call=r at*;obtain⟨m,a,Z⟩:=r;dsimp only at z Q⊢;generalize hf:(λt':lr=>mO {t' with lM:=a,mark:=x.lp+1,mV:=((x.Z++Z).length:Nat)} (3,l))=f;have o:∀u:lr,f u={u with lM:=a,mark:=x.lp+1,mV:=((x.Z++Z).length:Nat),done:=true}:=by intro u;rw[<-hf];rfl
 have p:=ym g f;have A:∀k:Nat,k≠n->(x.kK.modify n f)[k]? =x.kK[k]?:=λk c=>vS f c;have V:pP (λ_=>False) x.kR.kP.ns x.kW (x.kK.modify n f):=by
  refine h.nU.map Zs (λk u X E B=>?_);by_cases c:k=n;·subst c;rw[g] at E;cases E;rw[p] at B;cases B;rw[o];refine⟨⟨rfl,rfl,rfl,λ_=>rfl,λe=>.inl e⟩,λ_=>.inr J⟩
  ·rw[A k c,E] at B;cases B;exact⟨⟨rfl,rfl,rfl,id,.inl⟩,.inl⟩
 let W:Nat->Prop:=λk=>∃u,x.kK[k]? =some u/\qi u.call=true;have q:pP W m.kP.ns x.kW (x.kK.modify n f):=by
  refine V.Kw (λk u b v F=>?_);have c:k≠n:=by rintro rfl;rw[p] at b;cases b;rw[o] at v;cases v
  rw[A k c] at b;refine Qs h.nU h.kR.w.ns h.kR.w.Hd g T z.pb b c (h.nU.ok k u b v (λe=>e)) (λd G=>?_);cases D:qi u.call with
  |false=>rfl
  |true=>exact absurd ⟨u,b,D⟩ F
 generalize j:({x with lp:=x.lp+1,kR:=m,Z:=x.Z++Z,kK:=x.kK.modify n f}:lD)=s1;have Y:yp W s1 0 s1:=by subst j;refine⟨rfl,?_,rfl,λk u b=>⟨u,b,rfl,.inl rfl⟩⟩;exact⟨q.lk,q.tQ,λk u b v F=>q.ok k u b v (λe=>F ⟨e,aR _⟩),q.bd,q.mS⟩
 have kF:∀k t,W k->s1.kK[k]? =some t->qi t.call=true:=by
  rintro k u ⟨u0,H,D⟩ b;subst j;by_cases c:k=n;·subst c;rw[g] at H;cases H;rw[show({x with lp:=x.lp+1,kR:=m,Z:=x.Z++Z,kK:=x.kK.modify k f}:lD).kK[k]? =some (f t) from p] at b;cases b;rw[o];exact D
  ·rw[show({x with lp:=x.lp+1,kR:=m,Z:=x.Z++Z,kK:=x.kK.modify n f}:lD).kK[k]? =x.kK[k]? from A k c,H] at b;cases b;exact D
 have kG:∀t,s1.kK[n]? =some t->t.done=true:=by intro u b;subst j;rw[show({x with lp:=x.lp+1,kR:=m,Z:=x.Z++Z,kK:=x.kK.modify n f}:lD).kK[n]? =some (f t) from p] at b;cases b;rw[o]
 have y:=yp.AE Y kF kG i;have kH:∀u∈s1.kK,yd u.call/\u.lM.ll.length<=10000/\u.lM.l9.length<=100:=by
  intro u b;subst j;obtain⟨k,c⟩:=AL b;by_cases L:k=n;·subst L;rw[show({x with lp:=x.lp+1,kR:=m,Z:=x.Z++Z,kK:=x.kK.modify k f}:lD).kK[k]? =some (f t) from p] at c;cases c;rw[o];exact⟨S.call,z.ll,z.l9⟩
  ·rw[show({x with lp:=x.lp+1,kR:=m,Z:=x.Z++Z,kK:=x.kK.modify n f}:lD).kK[k]? =x.kK[k]? from A k L] at c;have:=h.kK u (ar c);exact⟨this.call,this.ll,this.l9⟩
 have kI:s1.kK.length<=40:=by rw[<-j];simp;exact h.tz
 have kJ:s1.k6.2.length<=50000:=by rw[<-j];dsimp only;omega
 have kL:((List.range i).foldl (rB n) s1).k6=s1.k6:=by rw[y.rest]
 generalize(List.range i).foldl (rB n) s1=s at*;refine QN y.nU (by rw[y.len];exact kI) (by rw[kL];exact kJ) (λu b=>?_);obtain⟨k,c⟩:=AL b;have M:k<s1.kK.length:=by have:=(ax.1 c).1;have:=y.len;omega
 obtain⟨X,d,G,_⟩:=y.kK k s1.kK[k] (ad M);rw[c] at d;cases d;have:=kH _ (bv M);have e3:u.lM=s1.kK[k].lM:=congrArg (·.2.2.2.2.2.2.2) G;rw[zQ G,e3];exact this
end Top
namespace Top
open YtkbifmngmocjnaaGreatDoor
def qT(t:lr):mo×Bool×Bool×Int×Int:=(t.call,t.done,t.mS,t.mV,t.lM.err)
theorem QQ(t:lr)(u:Int×Int)(h:u.1=1\/u.1=2):qT (mO t u)=qT t:=by
 unfold mO;by_cases a:u.1=1;·rw[aj a];rfl
 ·rw[ai a,aj (h.resolve_left a)];rfl
theorem aai{t u:lr}(h:qT t=qT u):t.call=u.call:=congrArg (·.1) h
def TR(l l':List lr):Prop:=∀t'∈l',∃t∈l,qT t'=qT t
theorem TR.refl(l:List lr):TR l l:=λt h=>⟨t,h,rfl⟩
theorem TR.trans{a b c:List lr}(h:TR a b)(d:TR b c):TR a c:=λt f=>by obtain⟨u,g,e⟩:=d t f;obtain⟨v,i,e'⟩:=h u g;exact⟨v,i,e.trans e'⟩
theorem KO{l:List lr}{k:Nat}{f:lr->lr}{t':lr}(h:t'∈l.modify k f):t'∈l\/∃t,l[k]? =some t/\t'=f t:=by
 obtain⟨i,a⟩:=eU.1 h;rw[bM] at a;cases hl:l[i]? with
 |none=>rw[hl] at a;simp at a
 |some t=>
  rw[hl] at a;by_cases e:k=i;·subst e;simp at a;exact .inr ⟨t,hl,a.symm⟩
  ·simp[e] at a;subst a;exact .inl (ar hl)
theorem HB{l:List lr}{k:Nat}{f:lr->lr}(hf:∀t,(f t).call=t.call):(l.modify k f).map (·.call)=l.map (·.call):=by
 refine cK (λi=>?_);rw[bP,bP,bM];cases l[i]? with
 |none=>rfl
 |some t=>
  show Option.map _ (some _)=_;simp only[aW,cD];split;·exact hf t
  ·rfl
theorem TR.yr(l:List lr)(k:Nat)(f:lr->lr)(hf:∀t,qT (f t)=qT t):TR l (l.modify k f):=λt' h=>by
 rcases KO h with h|⟨t,a,rfl⟩;·exact⟨t',h,rfl⟩
 ·exact⟨t,ar a,hf t⟩
structure rE(s a:lD):Prop where
 Z:a.Z=s.Z
 k6:a.k6=s.k6
 BC:a.kK.map (·.call)=s.kK.map (·.call)
 tr:TR s.kK a.kK
theorem rE.refl(s:lD):rE s s:=⟨rfl,rfl,rfl,.refl _⟩
theorem rE.trans{a b c:lD}(h:rE a b)(d:rE b c):rE a c:=⟨d.Z.trans h.Z,d.k6.trans h.k6,d.BC.trans h.BC,h.tr.trans d.tr⟩
theorem rE.FE(s:lD)(h:Int×Int):rE s (ri s h):=by
 have a:∀t,qT (mO t (1,h.1))=qT t:=λt=>QQ t _ (.inl rfl);unfold ri r8;by_cases b:0<=h.2;·rw[aj b];exact⟨rfl,rfl,HB (λt=>aai (a t)),.yr _ _ _ a⟩
 ·rw[ai b];exact⟨rfl,rfl,rfl,.refl _⟩
theorem rE.QS:∀(l:List (Int×Int)) (s:lD),rE s (l.foldl ri s)
 |[],s=>.refl s
 |h::l,s=>(rE.FE s h).trans (rE.QS l _)
theorem rE.aaj(kU:Nat)(s:lD)(n:Nat):rE s (rB kU s n):=by
 unfold rB;split;·split;rename_i t a _;exact rE.trans (b:={s with kW:=t,kK:=s.kK.modify n pD}) ⟨rfl,rfl,HB (λ_=>rfl),.yr _ _ _ (λ_=>rfl)⟩ (rE.QS a _)
 ·exact .refl s
theorem rE.KP(kU:Nat):∀(l:List Nat) (s:lD),rE s (l.foldl (rB kU) s)
 |[],s=>.refl s
 |n::l,s=>(rE.aaj kU s n).trans (rE.KP kU l _)
structure si(s a:lD):Prop where
 Z:∃l,a.Z=s.Z++l
 BC:a.kK.map (·.call)=s.kK.map (·.call)
theorem rE.grow{s a:lD}(h:rE s a):si s a:=⟨⟨[],by rw[h.Z,aP]⟩,h.BC⟩
theorem si.refl(s:lD):si s s:=(rE.refl s).grow
theorem si.trans{a b c:lD}(h:si a b)(d:si b c):si a c:=by obtain⟨l,e⟩:=h.Z;obtain⟨l',e'⟩:=d.Z;exact⟨⟨l++l',by rw[e',e,aV]⟩,d.BC.trans h.BC⟩
theorem si.yr(s a:lD)(k:Nat)(f:lr->lr)(hf:∀t,(f t).call=t.call)(b:∃l,a.Z=s.Z++l)(c:a.kK=s.kK.modify k f):si s a:=⟨b,by rw[c];exact HB hf⟩
theorem si.mK(s:lD)(n:Int):si s (pE s n)/\(pE s n).Z=s.Z/\(pE s n).k6=s.k6:=by
 refine⟨⟨⟨[],by rw[aP];rfl⟩,?_⟩,rfl,rfl⟩;unfold pE r8;dsimp only;split;·exact HB (λ_=>rfl)
 ·rfl
theorem QT:∀(l:List Int) (s:lD),si s (l.foldl pE s)/\(l.foldl pE s).Z=s.Z/\(l.foldl pE s).k6=s.k6
 |[],s=>⟨.refl s,rfl,rfl⟩
 |n::l,s=>by obtain⟨a,b,c⟩:=si.mK s n;obtain⟨d,e,f⟩:=QT l (pE s n);exact⟨a.trans d,e.trans b,f.trans c⟩
theorem BE(s:lD):∃l,s.Z=s.Z++l:=⟨[],(aP _).symm⟩
theorem HC(t:lr)(u:Int×Int):(mO t u).call=t.call:=by
 unfold mO;split;·rfl
 ·split;·rfl
  ·split;·rfl
   ·split<;>rfl
theorem QU(s:lD)(kU:Nat)(ng:Bool):si s (ob s kU ng)/\(ob s kU ng).Z=s.Z:=by
 unfold ob;split;·obtain⟨a,c,_⟩:=si.mK {s with k6:=(s.k6.1,s.k6.2.filter λw=>!(w.1==(kU:Int))),kK:=s.kK.modify kU λt=>{t with lM:={lU.z with err:=120}}} kU;exact⟨si.trans (si.yr s {s with k6:=(s.k6.1,s.k6.2.filter λw=>!(w.1==(kU:Int))),kK:=s.kK.modify kU λt=>{t with lM:={lU.z with err:=120}}} kU (λt=>{t with lM:={lU.z with err:=120}}) (λ_=>rfl) (BE s) rfl) a,c⟩
 ·split;rename_i g gone _;obtain⟨a,c,_⟩:=QT gone {s with k6:=g};exact⟨si.trans (b:={s with k6:=g}) ⟨BE s,rfl⟩ a,c⟩
theorem aak(s:lD)(kU:Nat)(u:Int×Int):si s (pz s kU u):=by
 have d:∀(c:nt) (g:wj),si s {s with kW:=c,k6:=g,kK:=s.kK.modify kU λt=>mO t u}:=λc g=>.yr s _ kU _ (λt=>HC t u) (BE s) rfl;unfold pz;split
 ·split;rename_i c lA _;cases lA;·exact⟨BE s,rfl⟩
  ·exact d c s.k6
 ·split
  ·split;rename_i c next _
   cases next with
   |none=>exact d c s.k6
   |some n=>exact(d c s.k6).trans (rE.FE _ _).grow
  ·split
   ·unfold qJ;split;·exact .refl s
    ·rename_i t f;split;rename_i m a Z _;dsimp only;have e:si s {s with kR:=m,Z:=s.Z++Z,kK:=s.kK.modify kU λt=>mO {t with lM:=a,mark:=s.lp,mV:=(s.Z++Z).length} u}:=.yr s _ kU _ (λt=>by rw[HC]) ⟨Z,rfl⟩ rfl;split;·exact e.trans (rE.KP kU _ _).grow
     ·exact e
   ·split
    ·split;rename_i g mD _;cases mD;·exact⟨BE s,rfl⟩
     ·exact si.trans (b:={s with k6:=g}) ⟨BE s,rfl⟩ (si.mK _ _).1
    ·split;·exact .yr s _ kU (λt=>{mO t u with mK:=s.lp}) (λt=>HC t u) (BE s) rfl
     ·exact .refl s
theorem HD(x:lD)(p:Int)(ng:Bool):si x (nm x p ng):=by
 unfold nm;split;·exact .refl x
 ·rename_i kU waits _;have a:si x {x with lp:=x.lp+1}:=⟨BE x,rfl⟩;dsimp only;split;·exact a.trans (QU _ kU ng).1
  ·split;·exact a
   ·exact a.trans (aak _ kU _)
theorem KQ{x:lD}{p:Int}{ng:Bool}{kU:Nat}(h:tM x p=some (kU,true)):(nm x p ng).Z=x.Z:=by rw[Hs h,aj rfl];exact(QU _ kU ng).2
def sT:mo:=⟨12,[],[],[],0⟩
def rR(mD:Int)(l:List lr):Prop:=∀t∈l,t.call=sT->(t.done=true->t.mS=false->t.lM.err=0)/\(t.mS=true->(t.lM.err=0/\t.mV<=mD)\/t.lM.err=120)
theorem rR.tr{k:Int}{l l':List lr}(h:rR k l)(a:TR l l'):rR k l':=λt' b c=>by obtain⟨t,d,e⟩:=a t' b;have f:t'.call=t.call:=congrArg (·.1) e;have g:t'.done=t.done:=congrArg (·.2.1) e;have i:t'.mS=t.mS:=congrArg (·.2.2.1) e;have j:t'.mV=t.mV:=congrArg (·.2.2.2.1) e;have m:t'.lM.err=t.lM.err:=congrArg (·.2.2.2.2) e;rw[g,i,j,m];exact h t d (f▸c)
theorem aal{ns:List la}{t:lr}(a:t.mS=false)(h:(pZ ns t).1=4):t.done=true:=by
 cases b:t.done with
 |true=>rfl
 |false=>
  rw[CE b a] at h;split at h;·simp at h
  ·split at h<;>simp at h
  ·split at h;·simp at h
   ·simp at h
   ·split at h;·simp at h
    ·split at h;split at h<;>simp at h
theorem aam{ns:List la}{t:lr}(a:t.mS=false)(h:(pZ ns t).1=5):t.call.kind≠12:=by
 cases b:t.done with
 |true=>
  rw[Eb b a] at h;split at h;·simp at h
  ·split at h;·simp at h
   ·assumption
 |false=>
  rw[CE b a] at h;split at h;·simp at h
  ·split at h<;>simp at h
  ·split at h;·simp at h
   ·simp at h
   ·split at h;·simp at h
    ·split at h;split at h<;>simp at h
theorem aan(m:mQ):(py m sT).2.1.err=0:=by
 have a:uZ sT=true:=by decide
 unfold py;rw[a,ai Zd];have b:pS m sT=((m,lU.z,[]),0):=by unfold pS sT;simp
 rw[b];dsimp only;rw[ai Zd,aj rfl];rfl
theorem rR.yr{k:Int}{l:List lr}(h:rR k l){n:Nat}{f:lr->lr}{t:lr}(d:l[n]? =some t)(hf:(f t).call=sT->((f t).done=true->(f t).mS=false->(f t).lM.err=0)/\((f t).mS=true->((f t).lM.err=0/\(f t).mV<=k)\/(f t).lM.err=120)):rR k (l.modify n f):=λt' a b=>by
 rcases KO a with a|⟨u,c,rfl⟩;·exact h t' a b
 ·rw[d] at c;cases c;exact hf b
theorem rR.pT{mD:Int}{s:lD}{kU:Nat}{t:lr}{u:Int×Int}(h:rR mD s.kK)(g:s.kK[kU]? =some t)(i:t.mS=false)(o:pZ s.kR.kP.ns t=u)(d:s.k6.1<=mD):rR mD (pz s kU u).kK/\(pz s kU u).k6.1<=mD:=by
 have l:∀c:Int,c=1\/c=2->u.1=c->rR mD (s.kK.modify kU λt=>mO t u):=λc b v=>h.tr (.yr _ _ _ (λt=>QQ t u (by rw[v];exact b)));have w:=h t (ar g);unfold pz;split
 ·rename_i j;split;rename_i p lA _;cases lA;·exact⟨h,d⟩
  ·exact⟨l 1 (.inl rfl) j,d⟩
 ·split
  ·rename_i j;split;rename_i p next _
   cases next with
   |none=>exact⟨l 2 (.inr rfl) j,d⟩
   |some n=>have f:=rE.FE {s with kW:=p,kK:=s.kK.modify kU λt=>mO t u} (u.2,n);refine⟨rR.tr (l 2 (.inr rfl) j) f.tr,?_⟩;dsimp only;rw[f.k6];exact d
  ·split
   ·rename_i x;unfold qJ;rw[g];dsimp only;have q:t.call=sT->(py s.kR t.call).2.1.err=0:=λb=>by rw[b];exact aan _
    (generalize py s.kR t.call=y at*;obtain⟨m,a,Z⟩:=y;dsimp only at q⊢;have k:rR mD (s.kK.modify kU λt=>mO {t with lM:=a,mark:=s.lp,mV:=(s.Z++Z).length} u):=h.yr g (by(have e:∀t:lr,mO t u={t with done:=true}:=λt=>by unfold mO;rw[ai Zo,ai Zo,aj x]);rw[e];exact λb=>⟨λ_ _=>q b,λh=>by rw[show _=t.mS from rfl,i] at h;cases h⟩);split;·have f:=rE.KP kU (List.range s.kK.length) {s with kR:=m,Z:=s.Z++Z,kK:=s.kK.modify kU λt=>mO {t with lM:=a,mark:=s.lp,mV:=(s.Z++Z).length} u};exact⟨rR.tr k f.tr,by rw[f.k6];exact d⟩);·exact⟨k,d⟩
   ·split
    ·rename_i k;have z:=aal i (by rw[o];exact k);rw[g];simp only[aW,aN];unfold wk;by_cases r:t.mV<=s.k6.1;·rw[aj r];dsimp only;rw[aj rfl];refine⟨?_,d⟩;unfold pE r8;dsimp only;rw[aj Zo,bC];exact h.yr g (λb=>⟨λ_ h=>(by cases h),λ_=>.inl ⟨(w b).1 z i,by show t.mV<=mD;omega⟩⟩)
     ·rw[ai r];split<;>exact⟨h,d⟩
    ·split;·rename_i A;have f:=aam i (by rw[o];exact A);refine⟨h.yr g (λb=>absurd ?_ f),d⟩;have b:(mO t u).call=sT:=b;rw[HC] at b;rw[b];rfl
     ·exact⟨h,d⟩
theorem rR.ng{mD:Int}{s:lD}{kU:Nat}(h:rR mD s.kK)(b:s.k6.1<=mD):rR mD (ob s kU true).kK/\(ob s kU true).k6.1<=mD:=by
 have e:(ob s kU true).kK=s.kK.modify kU λt=>{t with lM:={lU.z with err:=120},mS:=true,mK:=s.lp}:=by unfold ob pE;rw[aj rfl];dsimp only;unfold r8;rw[aj Zo,bC,gc];rfl
 refine⟨?_,b⟩;rw[e];intro t' a c;rcases KO a with a|⟨u,d,rfl⟩
 ·exact h t' a c
 ·exact⟨λ_ h=>(by cases h),λ_=>.inr rfl⟩
theorem rR.tY{C:Nat}{N:Int}{x:lD}(b:m5 C N x){mD El:Int}(h:rR mD x.kK)(v:(x.Z.length:Int)<=El)(n:Nat):rR El (ob {x with lp:=x.lp+1} n false).kK/\(ob {x with lp:=x.lp+1} n false).k6.1<=El:=by
 unfold ob;rw[ai Zd];unfold wm;dsimp only;have y:=b.mD;obtain⟨z,j,A,l⟩:=KB ((x.k6.2.filter λw=>decide (w.2<=max x.k6.1 (x.Z.length:Int))).map (·.1)) {x with lp:=x.lp+1,k6:=(max x.k6.1 (x.Z.length:Int),x.k6.2.filter λw=>!(decide (w.2<=max x.k6.1 (x.Z.length:Int))))} (λm c=>by obtain⟨w,d,rfl⟩:=aU.1 c;obtain⟨_,_,k,t,e,_⟩:=b.k6 w (bp.1 d).1;omega);rw[j];refine⟨λt' o g=>?_,by show max x.k6.1 (x.Z.length:Int)<=El;omega⟩;obtain⟨k,a⟩:=eU.1 o;rw[l] at a;dsimp only at a;cases hl:x.kK[k]? with
 |none=>rw[hl] at a;cases a
 |some t=>
  rw[hl] at a;simp only[aW,cD] at a;have B:=(b.kK t (ar hl)).mV;split at a
  ·rename_i c;obtain⟨w,d,e⟩:=aU.1 c;obtain⟨_,_,k2,t2,D,i,p,q,_⟩:=b.k6 w (bp.1 d).1;have:k2=k:=by omega
   subst this;rw[hl] at i;cases i;subst a;exact⟨λ_ h=>(by cases h),λ_=>.inl ⟨(h t (ar hl) g).1 p q,by show t.mV<=El;omega⟩⟩
  ·subst a;obtain⟨r,s⟩:=h t (ar hl) g;refine⟨r,λu=>?_⟩;rcases s u with f|f
   ·exact .inl ⟨f.1,by omega⟩
   ·exact .inr f
end Top
end Go.Proofs.YtkbifmngmocjnaaGreatDoor
