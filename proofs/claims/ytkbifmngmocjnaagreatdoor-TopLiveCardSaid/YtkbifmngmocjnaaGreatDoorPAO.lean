/- Proved here, packed: what the parts Walj Dmna Lwli View Read Sort prove (rules of the walk, contracts of functions, plain laws). Conditions: in each statement. -/
import Derived.Test.YtkbifmngmocjnaaGreatDoorPAN
namespace Go.Proofs.YtkbifmngmocjnaaGreatDoor
set_option maxRecDepth 100000
set_option maxHeartbeats 8000000
set_option linter.all false
section
open Top Proofs.Tryz
theorem WL{s t:kV}{seq b:Int}(h:Ca s seq=some (b,t)):1<=b/\b<=1000001:=by
 rw[JF] at h;split at h;·cases h
 ·split at h;·cases h
  ·split at h;·cases h
   ·split at h;·cases h
    ·split at h;·cases h;omega
     ·cases h
theorem OO(s:kV):∀(f:Nat) (seq:Int) (y:Int×Int×kV),xr s f seq=some y->y.1<=seq+2*f/\1<=y.2.1/\y.2.1<=1000001
 |0,_,_,h=>by cases h
 |f+1,seq,y,h=>by
  rw[GQ] at h;split at h;·rename_i b t a;cases h;have:=WL a;refine⟨?_,this.1,this.2⟩;show seq<=seq+2*((f+1:Nat):Int);omega
  ·have:=OO s f (seq+2) y h;omega
theorem JN(d:Dk):∀j,0<=(sd d j).1/\(sd d j).1<=1000/\0<=(sd d j).2.1/\(sd d j).2.1<=1000001
 |0=>⟨by show(0:Int)<=0;omega,by show(0:Int)<=1000;omega,by show(0:Int)<=0;omega,by show(0:Int)<=1000001;omega⟩
 |j+1=>by
  have b:=JN d j;have e:sd d (j+1)=AB (sd d j) (wE d j):=rfl;cases a:wE d j with
  |none=>rw[e,a];exact b
  |some y=>
   have c:=OO _ _ _ _ a;have f:=GR _ _ _ _ a;have g:((uP j 1:Nat):Int)<=2:=by unfold uP;split<;>decide
   rw[e,a,show AB (sd d j) (some y)=if y.1>(sd d j).1 then y else sd d j from rfl];split;·refine⟨by omega,by omega,by omega,by omega⟩
   ·exact b
theorem GY:∀(f:Nat) (s:kV) (a:Int),(wr f s a).1.length<=(wr f s a).2/\(wr f s a).2*16<=s.length
 |0,s,_=>⟨aA _,by show 0*16<=s.length;omega⟩
 |f+1,s,a=>by
  rw[JB];cases b:xR s a with
  |none=>exact⟨aA _,by show 0*16<=s.length;omega⟩
  |some y=>
   obtain⟨p,n⟩:=y;obtain⟨d,e,_⟩:=GO b;obtain⟨g,c⟩:=GY f (s.drop (n*16)) (a+1);rw[bi] at c;refine⟨?_,?_⟩;·show(wr f (s.drop (n*16)) (a+1)).1.length+1<=n+(wr f (s.drop (n*16)) (a+1)).2;omega
   ·show(n+(wr f (s.drop (n*16)) (a+1)).2)*16<=s.length;omega
theorem WM(w:Wl)(pos:Nat)(s:kV):(sB w pos s).ln.size=w.ln.size:=by rw[GX,GW,GM];split<;>rfl
def yV(d:Dk)(seq mR:Int)(a:List kV)(k:Nat):Wl:=⟨d,seq,mR,mR+a.length,nv d.size+k,mR+a.length-1,mR+a.length-1,[],true,0,0,0⟩
def vy(d:Dk):List kV×Nat:=Bi ((rC d (nv d.size) (d.size-nv d.size)).getD []) (sA d).2.1
theorem JO(d:Dk):wu d=if !(sy d) then none else if(sA d).1=0 then none else some (sB (sB (yV d (sA d).1 (sA d).2.1 (vy d).1 (vy d).2) (nv d.size+(vy d).2) (oV ((d.size-(nv d.size+(vy d).2))*16))) (pp d.size ((sA d).1+1)) (oV (d.size/4*16)),(sA d).2.2,(vy d).1):=by unfold wu vy;generalize sA d=a;obtain⟨seq,mR,state⟩:=a;dsimp only;generalize Bi ((rC d (nv d.size) (d.size-nv d.size)).getD []) mR=b;obtain⟨c,k⟩:=b;rfl
theorem WN(H:kM)(z:Steps H)(d:Dk)(v:Value)(m:Sl 2 sF H v d.ld)(kZ:d.ld.length<=300000)(k5:d.size<=1000000000):Fn prog 112 #[.agg (qz d v).toArray] H (λl r=>∃B C D,r=.tuple #[B,sv (((wu d).map (·.2.1)).getD []),C,nI D]/\(D=0↔(wu d).isSome=true)/\Cq (((wu d).map (·.1)).getD default) l B/\Sl 1 ni l C (((wu d).map (·.2.2)).getD [])):=λW L=>by
 have a:=JO d;obtain⟨A,c,rfl,k7,T⟩:=Zi m;refine enter func112 ?_;refine U ?_;intro E;refine U ?_;intro F;refine U ?_;refine mi (Dv H d _ m) ?_;cases n:sy d with
 |false=>rw[aj (by simp[n])] at a;refine U ?_;refine kS ?_;exact Iw (c1 (c1 c0)) results112 (.agg (cs:=nc default (.slice none 0 0) (.slice none 0 0)) inferInstance rfl lW rfl) Zt Zt Zt (λl hl _=>⟨_,_,140,by rw[a]<;>rfl,by rw[a];simp,by rw[a];exact⟨_,_,rfl,Sl.nil _ _ _,Sl.nil _ _ _⟩,by rw[a];exact Sl.nil _ _ _⟩)
 |true=>
  rw[ai (by simp[n])] at a;have t:=Ay.1 n;have k8:=t.size;refine U ?_;refine mi (Ws H z d _ m t) ?_;have V:=JN d 2;rw[<-GS d] at V;refine U ?_;by_cases o:(sA d).1=0;·rw[show((sA d).1==0)=true from by simp[o]];rw[aj o] at a;refine U ?_;refine kS ?_;exact Iw (c1 (c1 c0)) results112 (.agg (cs:=nc default (.slice none 0 0) (.slice none 0 0)) inferInstance rfl lW rfl) Zt Zt Zt (λl hl _=>⟨_,_,140,by rw[a]<;>rfl,by rw[a];simp,by rw[a];exact⟨_,_,rfl,Sl.nil _ _ _,Sl.nil _ _ _⟩,by rw[a];exact Sl.nil _ _ _⟩)
  ·rw[show((sA d).1==0)=false from by simpa using o];rw[ai o] at a;refine U ?_;refine md (JD d.size Zo W _) ?_;have k9:nv d.size<=d.size:=by unfold nv;omega
   refine U ?_;rw[show(d.size:Int)-(nv d.size:Int)=((d.size-nv d.size:Nat):Int) from by omega];refine mi (Of H d _ m (nv d.size) (d.size-nv d.size) Zo Zo Zo) ?_;have lc:=JG d (nv d.size) (d.size-nv d.size);have lg:((rC d (nv d.size) (d.size-nv d.size)).getD []).length<=(d.size-nv d.size)*16:=by rw[Dx,aj ⟨n,by omega⟩,aN,DD d t _ _ Zo];exact aA _
   refine U ?_;have X:vy d=Bi ((rC d (nv d.size) (d.size-nv d.size)).getD []) (sA d).2.1:=rfl;have Y:=GY ((((rC d (nv d.size) (d.size-nv d.size)).getD []).length)/16+1) ((rC d (nv d.size) (d.size-nv d.size)).getD []) (sA d).2.1;rw[show wr ((((rC d (nv d.size) (d.size-nv d.size)).getD []).length)/16+1) ((rC d (nv d.size) (d.size-nv d.size)).getD []) (sA d).2.1=vy d from rfl] at Y;refine l4 (hp:=f1 (f1 f0)) (Wo H z ((rC d (nv d.size) (d.size-nv d.size)).getD []) (sA d).2.1 ⟨by omega,by omega⟩ Zo) ?_;rw[<-X];rintro H1 _ kF ⟨vr,rfl,G⟩;generalize vy d=rr at*;obtain⟨e,k⟩:=rr;dsimp only at*;generalize lh:sA d=bb at*;obtain⟨seq,mR,state⟩:=bb;dsimp only at*;obtain⟨R,rc,rfl,_,_⟩:=Zi G;refine U ?_;refine ov (MV sF H1 A c d.ld Zo (T.up kF)) ?_;rintro _ _ ⟨i,j,rfl,rfl⟩;simp only[aD];refine L5 (hf:=f1 (f1 f0)) o0 (λp kG kH kI=>?_);have I:Sl 2 sF p (.slice i d.ld.length j) d.ld:=⟨_,_,rfl,kI,kH⟩;refine U ?_;refine SL.mL (L':=k4 F 76 (nc default (.slice none 0 0) (.slice none 0 0))::k4 E 74 (qz d (.slice i d.ld.length j))::fz p::L) (λ_ u=>u) ?_;refine U ?_;rw[show(nv d.size:Int)+(k:Int)=((nv d.size+k:Nat):Int) from by omega];obtain⟨f,q⟩:∃f:Wl,f={yV d seq mR e k with nu:=0,mD:=0}:=⟨_,rfl⟩;have kJ:qM p f (.slice i d.ld.length j) (.slice none 0 0):=by rw[q];exact⟨I,Sl.nil _ _ _⟩
   have lm:0<=f.next/\f.next<=1000000000:=by rw[q];show 0<=mR+(e.length:Int)/\mR+(e.length:Int)<=1000000000;omega
   have kL:yV d seq mR e k={f with nu:=f.next-1,mD:=f.next-1}:=by rw[q];rfl
   have J:=DJ p f _ _ kJ;rw[show nc f (.slice i d.ld.length j) (.slice none 0 0)=[nN d.size,sv d.pU,.slice i d.ld.length j,nI seq,nI mR,nI (mR+e.length),nN (nv d.size+k),nI 0,nI 0,.slice none 0 0,.bool true,nI 0,nI 0,nI 0] from by rw[q];rfl] at J;refine DI (hp:=f1 (f1 f0)) J ?_;rintro w _ _ K ⟨g,x,M,rfl,rfl⟩;simp only[aD];refine U ?_;refine nq [0,1,2,3,4,5,6,7,8,9,10,11,12,13,14,15,16,17,18,19,20,21] Zk Zk Zk Zk Zk (λ_ _ _ h=>h) ?_;refine U ?_;refine SC.mL (L':=k4 g 198 (vu (yV d seq mR e k) (.slice i d.ld.length j) (.slice none 0 0) x)::k4 F 76 (nc default (.slice none 0 0) (.slice none 0 0))::k4 E 74 (qz d (.slice i d.ld.length j))::fz w::L) (λ_ u=>by rw[kL];exact u) ?_;have kO:qM w (yV d seq mR e k) (.slice i d.ld.length j) (.slice none 0 0):=⟨I.up K,Sl.nil _ _ _⟩;have lq:(yV d seq mR e k).ln.size=d.size:=rfl;have lu:(yV d seq mR e k).ln.ld.length=d.ld.length:=rfl;have kQ:(yV d seq mR e k).mK=nv d.size+k:=rfl;have lx:nv d.size+k<=d.size:=by omega
   rw[<-kQ] at a;generalize yV d seq mR e k=b at*;refine DF (ws:=[18]) [] (lC.Z [0,1,2,3,4,5,6,7,8,9,10,11,12,13,14,15,16,17] (.op 18 .mZ)) Zk Zk Zk Zk (λ_ _ _ h=>h) (.of Zu) ?_;refine Bv _ _ _ _ Zk ?_;refine U ?_;rw[show(d.size:Int)-(b.mK:Int)=((d.size-b.mK:Nat):Int) from by omega];refine md (JE (d.size-b.mK) Zo W _) ?_;refine q8 ?_;refine DG rfl rfl rfl (λ_ _ h=>h) ?_ Sub.nil;refine tK (hf:=f1 (f1 f0)) o0 (DH w g x M b _ _ kO Zo b.mK Zo Zo (oV ((d.size-b.mK)*16)) (by unfold oV;rw[bS];omega)) ?_;rintro H4 _ _ N ⟨ly,O,rfl,rfl⟩;refine q8 ?_;refine⟨Sub.nil,?_⟩;have kT:(sB b b.mK (oV ((d.size-b.mK)*16))).ln.ld.length<=1000000:=ON b _ _ Zo (by unfold oV;rw[bS];omega);have lz:=WM b b.mK (oV ((d.size-b.mK)*16));generalize sB b b.mK (oV ((d.size-b.mK)*16))=P at*;obtain⟨A6,c6,rfl,_,_⟩:=Zi O.ld;refine U ?_;refine DF (ws:=[13]) [] (lC.Z [0,1,2,3,4,5,6,7,9,10,8,11,12] (.op 13 .mZ)) Zk Zk Zk Zk (λ_ _ _ h=>h) (.of Zu) ?_;refine Bv _ _ _ _ Zk ?_;refine U ?_;refine md (GP d.size Zo (seq+1) ⟨by omega,by omega⟩ W _) ?_;refine U ?_;refine md (DC d.size Zo W _) ?_;refine md (JE (d.size/4) Zo W _) ?_;refine q8 ?_;have kX:pp d.size (seq+1)<=1000000000:=by unfold pp;split<;>omega
   refine DG rfl rfl rfl (λ_ _ h=>h) ?_ Sub.nil;refine tK (hf:=f1 (f1 f0)) o0 (DH H4 g x (M.up N) P _ _ O kT (pp d.size (seq+1)) kX Zo (oV (d.size/4*16)) (by unfold oV;rw[bS];omega)) ?_;rintro H5 _ _ kY ⟨lB,y,rfl,rfl⟩;refine q8 ?_;refine⟨Sub.nil,?_⟩;generalize sB P (pp d.size (seq+1)) (oV (d.size/4*16))=s at*;obtain⟨Q,S,rfl,_,_⟩:=Zi y.ld;refine U ?_;refine pN rfl (qP Zn) (nc s (.slice Q s.ln.ld.length S) (.slice none 0 0)) rfl rfl rfl rfl ?_;refine U ?_;refine kS ?_;exact Iw (c1 (c1 (c1 c0))) results112 (.agg (cs:=nc s (.slice Q s.ln.ld.length S) (.slice none 0 0)) inferInstance rfl lW rfl) Zt Zt Zt (λl hl _=>⟨_,_,0,by rw[a]<;>rfl,by rw[a];simp,by rw[a];exact⟨_,_,rfl,y.ld.up hl,y.waits.up hl⟩,by rw[a];exact G.up (le_trans kG (le_trans K (le_trans N (le_trans kY hl))))⟩)
theorem WO(w:Wl)(o:lQ):xV w o=match vG [] o with
 |none=>none
 |some s=>zu w s:=rfl
theorem WP(H:kM)(g:Nat)(w:Wl)(j k:Value)(d:qM H w j k)(y:qH w)(o:lQ)(hf:pn o):Ch prog 103 #[.pointer (some ⟨g,0,none⟩),qW o] H (k4 g 151 (nc w j k)) (λz e' r=>∃l m n,r=nI n/\(n=0↔(xV w o).isSome=true)/\qM z ((xV w o).getD w) l m/\e'=k4 g 151 (nc ((xV w o).getD w) l m)):=λW L=>by
 obtain⟨A,c,rfl,D,_⟩:=Zi d.ld;obtain⟨B,e,rfl,E,F⟩:=Zi d.waits;have a:=WO w o;have p:=Je [] o hf;have G:(nA o).length=7:=rfl;refine enter func103 ?_;refine U ?_;intro I;refine U ?_;refine md (Nx [] o hf Zs W _) ?_;cases hp:vG [] o with
 |none=>rw[hp] at a;refine U ?_;refine kS ?_;exact lj results103 (L':=k4 g 151 (nc w (.slice A w.ln.ld.length c) (.slice B w.waits.length e))::fz H::L) Zt lv ⟨H,_,le_refl H,rfl,_,_,50,rfl,by rw[a];simp,by rw[a];exact d,by rw[a]<;>rfl⟩
 |some s=>
  rw[hp] at a p;simp only[aN,bm,cV] at p;simp only at a;refine U ?_;refine l4 (hp:=f1 (f1 f0)) (Ww H w _ _ d y s Zo) ?_;rintro f _ h ⟨_,rfl,J,K,rfl,b⟩;cases q:zu w s with
  |none=>rw[q] at a b;simp only[bI] at b;obtain⟨t,u,rfl,_,_⟩:=Zi b.ld;obtain⟨v,x,rfl,_,_⟩:=Zi b.waits;simp only[bI];refine U ?_;intro C;refine U ?_;refine kS ?_;exact lj results103 (L':=k4 g 151 (nc w (.slice A w.ln.ld.length c) (.slice B w.waits.length e))::fz f::L) Zt lv ⟨f,_,h,rfl,_,_,130,rfl,by rw[a];simp,by rw[a];exact d.up h,by rw[a]<;>rfl⟩
  |some i=>rw[q] at a b;simp only[aN] at b;obtain⟨t,u,rfl,_,_⟩:=Zi b.ld;obtain⟨v,x,rfl,_,_⟩:=Zi b.waits;simp only[aN];refine U ?_;intro C;refine U ?_;refine kS ?_;exact lj results103 (L':=k4 g 151 (nc i (.slice t i.ln.ld.length u) (.slice v i.waits.length x))::fz f::L) Zt lv ⟨f,_,h,rfl,_,_,0,rfl,by rw[a];simp,by rw[a];exact b,by rw[a]<;>rfl⟩
theorem OP:∀(l:List lQ),(∀o∈l,pn o)->((tp l).getD []).length<=l.length*1000200
 |[],_=>by simp[tp]
 |o::l,hf=>by
  have a:=OP l (λx b=>hf x (aI _ b));have hp:=Je [] o (hf o (ay ..));rw[show tp (o::l)=match vG [] o with
   |none=>none
   |some s=>(tp l).map (s++·) from rfl]
  cases c:vG [] o with
  |none=>simp
  |some s=>
   rw[c] at hp;simp only[aN,bm,cV] at hp;cases d:tp l with
   |none=>simp
   |some t=>rw[d] at a;simp only[aN] at a;show(s++t).length<=(o::l).length*1000200;rw[ak,aG];omega
theorem OQ(w:Wl)(l:List lQ):xW w l=match tp l with
 |none=>none
 |some state=>match wV w state with
  |none=>none
  |some w'=>Dc (wv w'):=rfl
theorem OR(w:Wl)(l:List lQ):xX w l=match xU w with
 |none=>xW w l
 |some w'=>some (wv w'):=rfl
theorem OS(H:kM)(P:Steps H)(g:Nat)(w:Wl)(y z:Value)(i:qM H w y z)(Q:qH w)(C:Value)(l:List lQ)(D:Sl 7 nA H C l)(kQ:l.length<=900)(hf:∀o∈l,pn o)(R:∀j w',wV w j=some w'->qH w'/\qH (wv w')):Ch prog 104 #[.pointer (some ⟨g,0,none⟩),C] H (k4 g 151 (nc w y z)) (λS e' r=>∃E F f,r=nI f/\(f=0↔(xW w l).isSome=true)/\qM S ((xW w l).getD w) E F/\e'=k4 g 151 (nc ((xW w l).getD w) E F)):=λW L=>by
 obtain⟨A,c,rfl,kT,_⟩:=Zi i.ld;obtain⟨B,e,rfl,kX,kY⟩:=Zi i.waits;have a:=OQ w l;obtain⟨V,n0,rfl,_,_⟩:=Zi D;refine enter func104 ?_;refine U ?_;refine mi (U3 H _ l D Zo hf) ?_;have p:((tp l).getD []).length<=1000000000:=by have:=OP l hf;omega
 cases hp:tp l with
 |none=>rw[hp] at a;refine U ?_;refine kS ?_;exact lj results104 (L':=k4 g 151 (nc w (.slice A w.ln.ld.length c) (.slice B w.waits.length e))::fz H::L) Zt lv ⟨H,_,(le_refl H),rfl,_,_,50,rfl,by rw[a];simp,by rw[a];exact i.up (le_refl H),by rw[a]<;>rfl⟩
 |some j=>
  rw[hp] at a p;simp only[aN] at p;simp only at a;refine U ?_;refine l4 (hp:=f1 f0) (WB H P w _ _ i Q j p) ?_;rintro q _ k ⟨_,f,rfl,m,kZ,k5,rfl,b⟩;cases s:wV w j with
  |none=>
   rw[s] at a b m;simp only[bI] at b;have G:f≠0:=by intro h;have:=m.1 h;cases this
   obtain⟨T,X,rfl,_,_⟩:=Zi b.ld;obtain⟨Y,kF,rfl,_,_⟩:=Zi b.waits;simp only[bI];refine U ?_;intro g7;refine U ?_;rw[show(f != 0)=true from by simpa using G];refine U ?_;refine kS ?_;exact lj results104 (L':=k4 g 151 (nc w (.slice A w.ln.ld.length c) (.slice B w.waits.length e))::fz q::L) Zt lv ⟨q,_,k,rfl,_,_,f,rfl,by rw[a];simp[G],by rw[a];exact i.up k,by rw[a]<;>rfl⟩
  |some t=>
   rw[s] at a b m;simp only[aN] at b;simp only at a;obtain⟨kG,kH⟩:=R j t s;have kI:f=0:=m.2 rfl;subst kI;obtain⟨T,X,rfl,_,_⟩:=Zi b.ld;obtain⟨Y,kF,rfl,_,_⟩:=Zi b.waits;simp only[aN];refine U ?_;intro g7;refine U ?_;refine l4 (hp:=f1 (f1 f0)) (OF q t _ _ b kG) ?_;rintro H2 _ u ⟨kJ,kL,rfl,kO⟩;generalize wv t=I at*;refine l4 (hp:=f1 (f1 f0)) (Wx H2 I kJ kL kO kH) ?_;rintro n _ v ⟨_,rfl,k7,k8,rfl,d⟩;cases J:Dc I with
   |none=>rw[J] at a d;simp only[bI] at d;obtain⟨K,M,rfl,_,_⟩:=Zi d.ld;obtain⟨N,O,rfl,_,_⟩:=Zi d.waits;simp only[bI];refine U ?_;refine kS ?_;exact lj results104 (L':=k4 g 151 (nc w (.slice A w.ln.ld.length c) (.slice B w.waits.length e))::fz n::L) Zt lv ⟨n,_,(le_trans k (le_trans u v)),rfl,_,_,140,rfl,by rw[a];simp,by rw[a];exact i.up (le_trans k (le_trans u v)),by rw[a]<;>rfl⟩
   |some x=>rw[J] at a d;simp only[aN] at d;obtain⟨K,M,rfl,_,_⟩:=Zi d.ld;obtain⟨N,O,rfl,_,_⟩:=Zi d.waits;simp only[aN];refine U ?_;refine kS ?_;exact lj results104 (L':=k4 g 151 (nc x (.slice K x.ln.ld.length M) (.slice N x.waits.length O))::fz n::L) Zt lv ⟨n,_,(le_trans k (le_trans u v)),rfl,_,_,0,rfl,by rw[a];simp,by rw[a];exact d,by rw[a]<;>rfl⟩
theorem WQ(H:kM)(t:Steps H)(g:Nat)(w:Wl)(u v:Value)(k:qM H w u v)(x:qH w)(y:Value)(l:List lQ)(z:Sl 7 nA H y l)(J:l.length<=900)(hf:∀o∈l,pn o)(K:∀M w',wV w M=some w'->qH w'/\qH (wv w'))(N:∀w',xU w=some w'->qH w'):Ch prog 102 #[.pointer (some ⟨g,0,none⟩),y] H (k4 g 151 (nc w u v)) (λO e' r=>∃C D d,r=nI d/\(d=0↔(xX w l).isSome=true)/\qM O ((xX w l).getD w) C D/\e'=k4 g 151 (nc ((xX w l).getD w) C D)):=λW L=>by
 obtain⟨A,c,rfl,kG,_⟩:=Zi k.ld;obtain⟨B,e,rfl,kH,kI⟩:=Zi k.waits;have b:=OR w l;obtain⟨V,n0,rfl,_,_⟩:=Zi z;refine enter func102 ?_;refine U ?_;refine l4 (hp:=f1 f0) (WH H t w _ _ k x) ?_;rintro E _ i ⟨_,d,rfl,m,kJ,kL,rfl,a⟩;cases n:xU w with
 |none=>
  rw[n] at b a m;simp only[bI] at a;simp only at b;have P:d≠0:=by intro h;have:=m.1 h;cases this
  obtain⟨Q,R,rfl,_,_⟩:=Zi a.ld;obtain⟨S,T,rfl,_,_⟩:=Zi a.waits;simp only[bI];refine U ?_;intro X;refine U ?_;rw[show(d != 0)=true from by simpa using P];refine U ?_;refine tK (hf:=f1 f0) (o1 o0) (OS E (t.up i) g w _ _ (k.up i) x _ l (z.up i) J hf K) ?_;rintro j _ _ p ⟨F,G,Y,rfl,I,f,rfl⟩;rw[<-b] at I f⊢;refine U ?_;refine kS ?_;exact lj results102 (L':=k4 g 151 (nc ((xX w l).getD w) F G)::fz j::L) Zt lv ⟨j,_,(le_trans i p),rfl,_,_,Y,rfl,I,f,rfl⟩
 |some q=>rw[n] at b a m;simp only[aN] at a;simp only at b;have kF:d=0:=m.2 rfl;subst kF;obtain⟨Q,R,rfl,_,_⟩:=Zi a.ld;obtain⟨S,T,rfl,_,_⟩:=Zi a.waits;simp only[aN];refine U ?_;intro X;refine U ?_;refine l4 (hp:=f1 (f1 f0)) (OF E q _ _ a (N q n)) ?_;rintro j _ p ⟨F,G,rfl,f⟩;generalize wv q=s at*;obtain⟨A3,c3,rfl,_,_⟩:=Zi f.ld;obtain⟨B3,e3,rfl,_,_⟩:=Zi f.waits;refine U ?_;refine kS ?_;exact lj results102 (L':=k4 g 151 (nc s (.slice A3 s.ln.ld.length c3) (.slice B3 s.waits.length e3))::fz j::L) Zt lv ⟨j,_,(le_trans i p),rfl,_,_,0,rfl,by rw[b];simp,by rw[b];exact f,by rw[b]<;>rfl⟩
end
section
open Top
theorem qZ.new(size:Int):qZ (uK size):=by
 have a:uK size=⟨(min (max size 0) 65536).toNat,oV ((min (max size 0) 65536).toNat*16),[]⟩:=rfl;rw[a];refine⟨?_,?_,λp hp=>(by cases hp)⟩;·show(min (max size 0) 65536).toNat<=65536;omega
 ·show(oV ((min (max size 0) 65536).toNat*16)).length=(min (max size 0) 65536).toNat*16;unfold oV;rw[bS]
theorem OT(s:kV):(cut s).length=nO s:=by rw[<-GL,bO,Fh]
theorem WR{s c:kV}(h:c∈cut s):c.length=16:=by rw[<-GL] at h;obtain⟨x,_,rfl⟩:=aU.1 h;exact x.len
theorem qZ.write{d a:Dk}{pos:Nat}{s:kV}(h:qZ d)(b:vJ d pos s=some a):qZ a/\a.size=d.size/\a.ld.length=d.ld.length+nO s/\nO s<=d.size:=by
 rw[GM] at b;split at b
 ·rename_i f;cases b;refine⟨⟨h.size,h.pU,λp hp=>?_⟩,rfl,?_,by have:=f.2;omega⟩
  ·rcases aQ.1 hp with e|e;·exact h.ld p e
   ·obtain⟨i,g,rfl⟩:=List.mem_mapIdx.1 e;have j:=OT s;exact⟨by show pos+i<d.size;have:=f.2;omega,WR (bv g)⟩
  ·show(d.ld++(cut s).mapIdx λi c=>(pos+i,c)).length=d.ld.length+nO s;rw[ak,iV,OT]
 ·cases b
theorem qZ.DM{d:Dk}(h:qZ d):qZ (sO d)/\(sO d).ld=[]:=by rw[GJ,aj (Ay.2 h)];exact⟨⟨h.size,DD d h 0 d.size Zo,λp hp=>(by cases hp)⟩,rfl⟩
theorem OU(mT:kV):∀(l:List (Nat×kV)) (i:Nat) (f:kV),(∀p∈l,p.1*16+16<=f.length)->(zr mT i f l).length=f.length
 |[],_,_,_=>rfl
 |p::l,i,f,h=>by have a:=Oo mT i f p (h p (ay ..));show(zr mT (i+1) (EJ mT i f p) l).length=f.length;rw[OU mT l (i+1) _ (λq b=>by rw[a];exact h q (aI _ b)),a]
theorem qZ.Cr{d:Dk}(h:qZ d)(mT:kV):qZ (t8 d mT)/\(t8 d mT).ld=[]/\(t8 d mT).size=d.size:=by rw[On,aj (Ay.2 h)];refine⟨⟨h.size,?_,λp hp=>(by cases hp)⟩,rfl,rfl⟩;show(zr mT 0 d.pU d.ld).length=d.size*16;rw[OU mT d.ld 0 d.pU (λp hp=>by have:=h.ld p hp;have:=h.pU;omega),h.pU]
theorem JP{w w':Wl}{pos:Nat}{s:kV}(h:qZ w.ln)(hp:xu w pos s=some w'):∃d,w'={w with ln:=d}/\qZ d/\d.size=w.ln.size/\d.ld.length<=w.ln.ld.length+65536:=by
 rw[GW] at hp;cases a:vJ w.ln pos s with
 |none=>rw[a] at hp;cases hp
 |some d=>rw[a] at hp;cases hp;obtain⟨b,c,e,f⟩:=h.write a;have:=h.size;exact⟨d,rfl,b,c,by omega⟩
theorem GZ{w:Wl}{pos:Nat}{s:kV}(h:qZ w.ln):∃d,sB w pos s={w with ln:=d}/\qZ d/\d.size=w.ln.size/\d.ld.length<=w.ln.ld.length+65536:=by
 rw[GX];cases hp:xu w pos s with
 |none=>exact⟨w.ln,rfl,h,rfl,by omega⟩
 |some w'=>exact JP h hp
structure pF(n:Int)(w:Wl):Prop where
 ln:qZ w.ln
 ld:w.ln.ld.length<=131072
 OV:w.tu=false->w.ln.ld=[]
 seq:0<=w.seq/\w.seq<=1000
 mR:0<=w.mR/\w.mR<=3000000
 next:0<=w.next/\w.next<=2000000
 mK:w.mK<=w.ln.size
 nu:w.nu+w.waits.length=w.next-1
 mD:-1<=w.mD/\w.mD<=3000000
 waits:w.waits.length<=n
 se:∀p∈w.waits,p.length<=40000
 n7:w.n7=0
 oW:w.oW=0
 pV:w.pV=0
theorem pF.B{n:Int}{w:Wl}(h:pF n w)(a:n<=100000):qH w:=by have b:=h.ld;have c:=h.seq;have d:=h.mR;have e:=h.next;have f:=h.nu;have g:=h.mD;have i:=h.waits;have j:=h.n7;have k:=h.oW;have l:=h.pV;exact⟨h.ln,by omega,by omega,by omega,by omega,h.mK,by omega,by omega,by omega,λp hp=>by have:=h.se p hp;omega,by omega,by omega,by omega⟩
theorem pF.mono{n m:Int}{w:Wl}(h:pF n w)(a:n<=m):pF m w:={h with waits:=by have:=h.waits;omega}
theorem pF.append{n:Int}{w w':Wl}{p:kV}(h:pF n w)(a:zu w p=some w'):pF (n+1) w'/\w'.next=w.next+1/\w'.mD=w.mD/\w'.ln=w.ln:=by
 rw[JL] at a;split at a;·cases a
 ·rename_i d;cases a;have e:=h.next;have f:=h.nu;have g:=h.waits;refine⟨⟨h.ln,h.ld,h.OV,h.seq,h.mR,?_,h.mK,?_,h.mD,?_,λq c=>?_,h.n7,h.oW,h.pV⟩,rfl,rfl,rfl⟩;·show 0<=w.next+1/\w.next+1<=2000000;omega
  ·show w.nu+((w.waits++[p]).length:Int)=w.next+1-1;rw[ak,dy];omega
  ·show((w.waits++[p]).length:Int)<=n+1;rw[ak,dy];omega
  ·rcases aQ.1 c with b|b;·exact h.se q b
   ·rw[aE.1 b];omega
theorem pF.settle{n:Int}{w:Wl}(h:pF n w):∃d b,sa w={w with ln:=d,tu:=b}/\qZ d/\d.size=w.ln.size/\d.ld=[]:=by
 unfold sa;cases a:w.tu with
 |false=>exact⟨w.ln,false,by rw[ai Zd,<-a],h.ln,rfl,h.OV a⟩
 |true=>exact⟨sO w.ln,false,rfl,h.ln.DM.1,DK _,h.ln.DM.2⟩
theorem pF.OW{n:Int}{w w':Wl}(h:pF n w)(a:xU w=some w'):∃d b e,w'={w with ln:=d,tu:=b,mK:=e,nu:=w.next-1,waits:=[]}/\qZ d/\d.size=w.ln.size/\d.ld.length<=131072/\e<=d.size:=by
 have r:=h.next;have f:=h.nu;rw[OK] at a;split at a;·cases a
 ·split at a;·cases a
  ·rename_i all mz;split at a;·cases a
   ·rename_i s;split at a;·rename_i g;cases a;rw[g] at f;refine⟨w.ln,w.tu,w.mK,?_,h.ln,rfl,h.ld,h.mK⟩;obtain⟨t,u,a3,a4,a5,v,x,y,a9,z,A,B⟩:=w;simp only at g f⊢;subst g;simp only[bm] at f;congr 1;omega
    ·obtain⟨d,b,e,k,m,o⟩:=h.settle;rw[e] at a;split at a;·cases a
     ·rename_i l hp;cases a;obtain⟨i,p,q,j,c⟩:=JP (w:={w with ln:=d,tu:=b}) k hp;subst p;have C:=h.mK;refine⟨i,b,w.mK+all.length/16,rfl,q,by rw[j];exact m,?_,?_⟩;·have c:i.ld.length<=d.ld.length+65536:=c;rw[o] at c;simp only[bm] at c;omega
      ·have j:i.size=d.size:=j;omega
theorem pF.mark{n:Int}{w w':Wl}{g:kV}(h:pF n w)(a:wV w g=some w'):w.seq<200/\∃d b,w'={w with ln:=d,tu:=b,n7:=1,oW:=w.next,pV:=w.waits.length}/\qZ d/\d.size=w.ln.size/\d.ld.length<=131072:=by
 rw[OI] at a;split at a;·cases a
 ·rename_i q;split at a;·cases a
  ·split at a;·cases a
   ·split at a;·cases a
    ·(obtain⟨d,b,e,i,j,k⟩:=h.settle;rw[e] at a;split at a;·cases a);·rename_i l hp;cases a;obtain⟨f,m,o,p,c⟩:=JP (w:={w with ln:=d,tu:=b}) i hp;subst m;refine⟨by omega,f,b,rfl,o,by rw[p];exact j,?_⟩;have c:f.ld.length<=d.ld.length+65536:=c;rw[k] at c;simp only[bm] at c;omega
theorem pF.G5{n:Int}{w w':Wl}{c:kV}(h:pF n w)(g:n<=100000)(f:wV w c=some w'):qH w'/\qH (wv w'):=by obtain⟨i,d,b,e,a,j,k⟩:=h.mark f;have l:=h.ld;have m:=h.seq;have o:=h.mR;have q:=h.next;have r:=h.nu;have s:=h.mD;have t:=h.waits;have u:=h.mK;subst e;refine⟨⟨a,by show d.ld.length<=500000;omega,by show 0<=w.seq/\w.seq<=1000;omega,by show 0<=w.mR/\w.mR<=1000000000;omega,by show 0<=w.next/\w.next<=1000000000;omega,by show w.mK<=d.size;omega,by show -1000000000<=w.nu/\w.nu<=1000000000;omega,by show -1000000000<=w.mD/\w.mD<=1000000000;omega,by show w.waits.length<=100000;omega,λp hp=>by have:=h.se p hp;omega,by show(0:Int)<=1/\(1:Int)<=2;omega,by show 0<=w.next/\w.next<=1000000000;omega,by show 0<=(w.waits.length:Int)/\(w.waits.length:Int)<=1000000000;omega⟩,?_⟩;rw[JM,aj (by show(1:Int)≠0;decide)];have hf:=a.DM;refine⟨hf.1,by show(sO d).ld.length<=500000;rw[hf.2];exact aR _,by show 0<=w.seq/\w.seq<=1000;omega,by show 0<=w.mR/\w.mR<=1000000000;omega,by show 0<=w.next/\w.next<=1000000000;omega,by show w.mK<=(sO d).size;rw[DK];omega,by show -1000000000<=w.nu/\w.nu<=1000000000;omega,by show -1000000000<=max w.nu (w.next-1)/\max w.nu (w.next-1)<=1000000000;omega,by show w.waits.length<=100000;omega,λp hp=>by have:=h.se p hp;omega,by show(0:Int)<=2/\(2:Int)<=2;omega,by show 0<=w.next/\w.next<=1000000000;omega,by show 0<=(w.waits.length:Int)/\(w.waits.length:Int)<=1000000000;omega⟩
theorem pF.JQ{n:Int}{w w':Wl}(h:pF n w)(i:n<=100000)(a:xU w=some w'):qH w':=by obtain⟨d,b,e,c,f,j,k,g⟩:=h.OW a;have l:=h.ld;have m:=h.seq;have o:=h.mR;have q:=h.next;have r:=h.mD;have s:=h.n7;have t:=h.oW;have u:=h.pV;subst c;exact⟨f,by show d.ld.length<=500000;omega,by show 0<=w.seq/\w.seq<=1000;omega,by show 0<=w.mR/\w.mR<=1000000000;omega,by show 0<=w.next/\w.next<=1000000000;omega,g,by show -1000000000<=w.next-1/\w.next-1<=1000000000;omega,by show -1000000000<=w.mD/\w.mD<=1000000000;omega,by show([]:List kV).length<=100000;exact aR _,λp hp=>(by cases hp),by show 0<=w.n7/\w.n7<=2;omega,by show 0<=w.oW/\w.oW<=1000000000;omega,by show 0<=w.pV/\w.pV<=1000000000;omega⟩
structure OX(w w':Wl):Prop where
 next:w'.next=w.next
 mD:w'.mD=w.next-1
 waits:w'.waits=[]
 size:w'.ln.size=w.ln.size
theorem pF.JR{n:Int}{w w':Wl}{l:List lQ}(h:pF n w)(g:0<=n)(a:xW w l=some w'):pF n w'/\OX w w':=by
 rw[OQ] at a;split at a;·cases a
 ·split at a;·cases a
  ·rename_i o i;obtain⟨q,d,b,e,j,r,t⟩:=h.mark i;have u:=h.ld;have v:=h.seq;have y:=h.mR;have z:=h.next;have A:=h.nu;have B:=h.mD;have C:=h.waits;have D:=h.mK;subst e;rw[JM,aj (by show(1:Int)≠0;decide),OG] at a;split at a;·cases a
   ·cases a;have hf:=j.DM;have E:=DK d;generalize k:vO _=x;have f:x={w with ln:=sO d,tu:=false,n7:=2,oW:=w.next,pV:=(w.waits.length:Int),mD:=max w.nu (w.next-1),seq:=w.seq+1,mR:=w.next,mK:=nv (sO d).size,nu:=max w.nu (w.next-1),waits:=w.waits.drop (min (max (w.waits.length:Int) 0) w.waits.length).toNat}:=k.symm;have oC:w.waits.drop (min (max (w.waits.length:Int) 0) (w.waits.length:Int)).toNat=[]:=aX Zo;rw[oC] at f;obtain⟨c,m,k1,k2,k3⟩:=GZ (w:=x) (pos:=x.mK) (s:=oV ((x.ln.size-x.mK)*16)) (by rw[f];exact hf.1);rw[m];subst f;have k3:c.ld.length<=(sO d).ld.length+65536:=k3;have k2:c.size=(sO d).size:=k2;rw[hf.2] at k3;simp only[bm] at k3;refine⟨⟨k1,by show c.ld.length<=131072;omega,(λh=>by cases h),by show 0<=w.seq+1/\w.seq+1<=1000;omega,by show 0<=w.next/\w.next<=3000000;omega,by show 0<=w.next/\w.next<=2000000;omega,?_,?_,by show -1<=max w.nu (w.next-1)/\max w.nu (w.next-1)<=3000000;omega,by show(([]:List kV).length:Int)<=n;simpa using g,λp hp=>(by cases hp),rfl,rfl,rfl⟩,⟨rfl,?_,rfl,?_⟩⟩;·show nv (sO d).size<=c.size;rw[k2];unfold nv;omega
    ·show max w.nu (w.next-1)+(([]:List kV).length:Int)=w.next-1;simp only[bm];omega
    ·show max w.nu (w.next-1)=w.next-1;omega
    ·show c.size=w.ln.size;omega
theorem pF.tY{n:Int}{w w':Wl}{l:List lQ}(h:pF n w)(c:0<=n)(a:xX w l=some w'):pF n w'/\OX w w':=by
 rw[OR] at a;split at a;·exact h.JR c a
 ·rename_i q g;cases a;obtain⟨d,b,e,i,j,r,s,t⟩:=h.OW g;have k:=h.seq;have m:=h.mR;have o:=h.next;have u:=h.mD;have f:=h.n7;subst i;rw[JM,ai (by show¬w.n7≠0;rw[f];decide)];have hf:=j.DM;have v:=DK d;refine⟨⟨hf.1,by show(sO d).ld.length<=131072;rw[hf.2];exact aR _,λ_=>hf.2,k,m,o,by show e<=(sO d).size;omega,by show w.next-1+(([]:List kV).length:Int)=w.next-1;simp,by show -1<=w.next-1/\w.next-1<=3000000;omega,by show(([]:List kV).length:Int)<=n;simpa using c,λp hp=>(by cases hp),f,h.oW,h.pV⟩,⟨rfl,rfl,rfl,by show(sO d).size=w.ln.size;omega⟩⟩
theorem pF.new{size:Int}{w:Wl}(h:Bk size=some w):pF 0 w/\w.next=1/\w.mD=0/\w.ln.size=(uK size).size:=by
 rw[OL] at h;split at h;·cases h
 ·cases h;obtain⟨a,b,k1,k2,k3⟩:=GZ (w:=x9 (uK size)) (pos:=pp (uK size).size 1) (s:=DL) (qZ.new size);rw[b,OC];have hf:=k1.DM;have c:=DK a;have k2:a.size=(uK size).size:=k2;refine⟨⟨hf.1,by show(sO a).ld.length<=131072;rw[hf.2];exact aR _,λ_=>hf.2,by show(0:Int)<=1/\(1:Int)<=1000;omega,by show(0:Int)<=1/\(1:Int)<=3000000;omega,by show(0:Int)<=1/\(1:Int)<=2000000;omega,?_,rfl,by show(-1:Int)<=0/\(0:Int)<=3000000;omega,by show(([]:List kV).length:Int)<=0;simp,λp hp=>(by cases hp),rfl,rfl,rfl⟩,rfl,rfl,by show(sO a).size=_;omega⟩;show nv (uK size).size<=(sO a).size;rw[c,k2];unfold nv;omega
theorem pF.WS{d:Dk}{w:Wl}{i:kV}{j:List kV}(e:qZ d)(hl:d.ld=[])(h:wu d=some (w,i,j)):pF 0 w/\w.ln.size=d.size:=by
 rw[JO] at h;split at h;·cases h
 ·split at h;·cases h
  ·cases h;have k:=JN d 2;rw[<-GS] at k;have r:=JG d (nv d.size) (d.size-nv d.size);have l:=GY (((rC d (nv d.size) (d.size-nv d.size)).getD []).length/16+1) ((rC d (nv d.size) (d.size-nv d.size)).getD []) (sA d).2.1;have t:(vy d).1.length<=(vy d).2/\(vy d).2*16<=((rC d (nv d.size) (d.size-nv d.size)).getD []).length:=l;have u:((rC d (nv d.size) (d.size-nv d.size)).getD []).length<=(d.size-nv d.size)*16:=by(rw[Dx];split;·rename_i m;show(Al d _ _).length<=_;rw[DD d e _ _ m.2];exact aA _);·exact aR _
   have v:nv d.size<=d.size:=by unfold nv;omega
   have x:=e.size;generalize vy d=y at*;generalize sA d=a at*;obtain⟨b,n,k1,k2,k3⟩:=GZ (w:=yV d a.1 a.2.1 y.1 y.2) (pos:=nv d.size+y.2) (s:=oV ((d.size-(nv d.size+y.2))*16)) e;rw[n];obtain⟨c,o,q,f,g⟩:=GZ (w:={yV d a.1 a.2.1 y.1 y.2 with ln:=b}) (pos:=pp d.size (a.1+1)) (s:=oV (d.size/4*16)) k1;rw[o];have k3:b.ld.length<=d.ld.length+65536:=k3;have g:c.ld.length<=b.ld.length+65536:=g;have k2:b.size=d.size:=k2;have f:c.size=b.size:=f;rw[hl] at k3;simp only[bm] at k3;refine⟨⟨q,by show c.ld.length<=131072;omega,(λh=>by cases h),by show 0<=a.1/\a.1<=1000;omega,by show 0<=a.2.1/\a.2.1<=3000000;omega,by show 0<=a.2.1+(y.1.length:Int)/\a.2.1+(y.1.length:Int)<=2000000;omega,by show nv d.size+y.2<=c.size;omega,by show a.2.1+(y.1.length:Int)-1+(([]:List kV).length:Int)=a.2.1+(y.1.length:Int)-1;simp,by show -1<=a.2.1+(y.1.length:Int)-1/\a.2.1+(y.1.length:Int)-1<=3000000;omega,by show(([]:List kV).length:Int)<=0;simp,λp hp=>(by cases hp),rfl,rfl,rfl⟩,by show c.size=d.size;omega⟩
end
section
open Top Proofs.Tryz
instance adA:wX prog 9 sv:=TA Zk
instance adB:wX prog 3 (λa:Int=>Value.int .i64 a):=MH Zk
instance:wz prog 161 9 166:=⟨by kernel_rfl⟩
instance:wz prog 159 3 4:=⟨by kernel_rfl⟩
instance:wz prog 120 9 102:=⟨by kernel_rfl⟩
instance:Bo prog 166 (.agg (oR la.z).toArray):=⟨_,rfl,rfl⟩
instance:Bo prog 4 (.bool false):=⟨_,rfl,rfl⟩
def xb(dir:Int)(n:la):Bool:=n.lZ==dir&&ow n.pg
theorem WT(H:kM)(q o:Nat)(A:Option Addr)(c:Nat)(l:List la)(dir:Int)(y:H.kn (nX q [.slice A l.length c]))(D:H.kn (nX o [nI dir]))(E:H.kn (Rd A 8 oR l))(hl:l.length<=1000000000)(W:World):zx prog W 198 [.pointer (some ⟨q,0,none⟩),.pointer (some ⟨o,0,none⟩)] H.p (λn:la=>[qk n]) (·<+:l.filter (xb dir)) (·=l.filter (xb dir)):=by
 intro z K S a F G I B;refine enter func198 ?_;have r:∀pre X,K pre X->oq W (X++a) H.p:=λpre X h=>F pre X a h;have k2:=(r _ _ B).kn y;refine U ?_;refine mP (λm σ L'=>∃(i:Nat) (X:List kM),m=l.length-i/\i<=l.length/\K ((l.take i).filter (xb dir)) X/\L'=X++a/\ml σ [(0,.func (.yield z) #[] #[]),(1,.pointer (some ⟨q,0,none⟩)),(2,.pointer (some ⟨o,0,none⟩)),(6,.slice A l.length c),(7,nN l.length),(8,nN i)]) l.length
  _ (s1 _) ⟨0,I,by omega,by omega,B,rfl,rfl,rfl,rfl,rfl,rfl,rfl,trivial⟩ ?_
 rintro m σ _ ⟨i,X,rfl,T,g,rfl,J⟩;obtain⟨V,rfl⟩:=J.open;have k2:=(r _ _ g).kn y;have k3:=(r _ _ g).kn D;have Y:=(r _ _ g).kn E;refine U ?_;refine mE rfl (λt=>?_) (λt=>?_)
 ·have L:i<l.length:=by have:=am t;omega
  obtain⟨e,M⟩:∃e,l[i]? =some e:=⟨_,ad L⟩;have kF:(oR e).length=8:=rfl;have j:(l.take (i+1)).filter (xb dir)=if xb dir e=true then(l.take i).filter (xb dir)++[e] else(l.take i).filter (xb dir):=by rw[aT,M,cm];by_cases N:xb dir e=true<;>simp[N]
  refine CO ?_;refine sX ?_;refine Es ?_;refine sX ?_;refine wM (λO L'=>∃f,L'=k4 f 166 (oR e)::(X++a)/\ml O [(0,.func (.yield z) #[] #[]),(1,.pointer (some ⟨q,0,none⟩)),(2,.pointer (some ⟨o,0,none⟩)),(5,.pointer (some ⟨f,0,none⟩)),(6,.slice A l.length c),(7,nN l.length),(8,nN i)]) ?_ ?_;·refine U ?_;intro f;refine U ?_;exact⟨f,rfl,rfl,rfl,rfl,rfl,rfl,rfl,rfl,trivial⟩
  rintro _ _ ⟨f,rfl,P⟩;obtain⟨kG,rfl⟩:=P.open;have kH:oq W (k4 f 166 (oR e)::(X++a)) (nX o [nI dir]):=k3.cons _;have u:(l.take (i+1)).filter (xb dir)<+:l.filter (xb dir):=⟨(l.drop (i+1)).filter (xb dir),by rw[<-cm,bT]⟩;have C:∀d:List kM,(d++a).Sublist (d++k4 f 166 (oR e)::a):=λd=>(dI _ _).append_left d;by_cases s:xb dir e=true
  ·rw[aj s] at j;rw[j] at u;have k:=s;unfold xb at k;rw[aF] at k;refine sX (Gl ?_);refine rN rfl ?_;refine U ?_;refine rN rfl ?_;refine U ?_;refine rN rfl ?_;refine U ?_;refine rN rfl ?_;refine U ?_;rw[k.1];refine rN rfl ?_;refine U ?_;refine rN rfl ?_;refine U ?_;refine rN rfl ?_;refine U ?_;refine rN rfl ?_;refine md (zv e.pg W _) ?_;rw[k.2];refine U ?_;refine rN rfl ?_;refine U ?_;refine rN rfl ?_;refine U ?_;refine rN rfl ?_;refine U ?_;refine rN rfl ?_;refine U ?_;refine yL.mL (L':=X++(k4 f 166 (oR e)::a)) (λw v=>v.ny dN.symm) ?_;refine ER rfl (G _ e X (k4 f 166 (oR e)::a) u g) rfl rfl rfl (λ_ _ h=>h) ?_;rintro b _ ⟨d,rfl,⟨rfl,x⟩|⟨rfl,x⟩⟩;·refine U ?_;exact⟨l.length-(i+1),d++a,by omega,C d,i+1,d,rfl,by omega,by rw[j];exact x,rfl,rfl,rfl,rfl,rfl,rfl,rfl,trivial⟩
   ·refine U ?_;refine SC.mL (L':=d++a) (λw v=>v.sublist (C d)) ?_;refine kS ?_;exact AS results198 ⟨d,rfl,.inr ⟨_,u,x⟩⟩
  ·rw[ai s] at j;have kI:∀L',L'=k4 f 166 (oR e)::(X++a)->(X++a).Sublist L':=λL' h=>h▸dI _ _;have k:¬((e.lZ==dir)=true/\ow e.pg=true):=λh=>s (by unfold xb;rw[h.1,h.2];rfl);refine sX ?_;refine U ?_;cases Q:(e.lZ==dir) with
   |false=>refine U ?_;exact⟨l.length-(i+1),X++a,by omega,dI _ _,i+1,X,rfl,by omega,by rw[j];exact g,rfl,rfl,rfl,rfl,rfl,rfl,rfl,trivial⟩
   |true=>refine U ?_;refine md (zv e.pg W _) ?_;rw[show ow e.pg=false from by cases h:ow e.pg with|false=>rfl|true=>exact absurd ⟨Q,h⟩ k];refine U ?_;exact⟨l.length-(i+1),X++a,by omega,dI _ _,i+1,X,rfl,by omega,by rw[j];exact g,rfl,rfl,rfl,rfl,rfl,rfl,rfl,trivial⟩
 ·have R:i=l.length:=by have:=av t;omega
  subst R;rw[bf] at g;refine U ?_;exact xK results198 ⟨X,rfl,.inl ⟨_,rfl,g⟩⟩
theorem WU(H:kM)(A:Option Addr)(m c:Nat)(dir:Int):Fn prog 123 #[.slice A m c,nI dir] H (λd r=>∃a b:Nat,r=.func (.func 198) #[] #[.pointer (some ⟨a,0,none⟩),.pointer (some ⟨b,0,none⟩)]/\d.kn (nX a [.slice A m c])/\d.kn (nX b [nI dir])):=λW L=>by refine enter func123 ?_;refine U ?_;intro a;refine U ?_;intro b;refine U ?_;refine kS ?_;exact lX (c1 (c1 c0)) results123 Zt (λd hl e=>⟨a,b,rfl,pj (e.kn _ (m1 m0)),pj (e.kn _ m0)⟩)
theorem G6(m:Nm)(s:kV):qG m s=pR m s:=rfl
theorem JS(H:kM)(v:Value)(l:List la)(p:pq H v l)(dir:Int):Mk prog 61 #[v,nI dir] H (λes r=>∃g,es=[nG g sv qk (rI l dir)]/\r=.map (some g)):=λW L=>by
 obtain⟨⟨A,c,rfl,I,q⟩,s⟩:=p;have J:=s.len;refine EU func61 ?_;refine rj (sR ?_);refine U ?_;refine rj (sR ?_);refine Ik ?_;refine EZ sv qk (.inl rfl) rfl rfl (λgm=>?_);refine U ?_;intro b;refine U ?_;refine rj ?_;refine rj (sR ?_);refine U ?_;refine l4 (hp:=f1 (f1 f0)) (WU H A l.length c dir) ?_;rintro d _ k ⟨t,u,rfl,w,y⟩;refine U ?_;refine ES ?_;refine ET (L:=L) (WT d t u A c l dir w y (q.up k) Zo W) (λpre X=>X=[k4 b 161 [.map (some gm)],nG gm sv qk (pre.foldl po []),fz d]) (λ_ _ _=>False)
  (λpre x z B=>∃e,B=[k4 e 166 (oR x),k4 b 161 [.map (some gm)],nG gm sv qk (pre.foldl po []),fz d]/\ml z [(5,.pointer (some ⟨b,0,none⟩)),(6,.pointer (some ⟨e,0,none⟩))])
  [k4 b 161 [.map (some gm)],nG gm sv qk [],fz d] rfl (by rintro pre _ n rfl;exact Gm (m1 (m1 m0))) ?_ ?_ ?_ (λ_ _ _ _ _ h=>h.elim) (sk:=As func198)
 ·rintro C pre x _ n E rfl;refine pA ?_;refine U ?_;intro e;refine U ?_;exact⟨_,Sub.refl,e,rfl,rfl,rfl,trivial⟩
 ·rintro C pre x σ _ n E ⟨e,rfl,F⟩;obtain⟨K,rfl⟩:=F.open;have j:(pre++[x]).foldl po []=po (pre.foldl po []) x:=by rw[bV];rfl
  generalize pre.foldl po []=m at*;refine pA ?_;refine U ?_;refine yM (ke:=sv) (ve:=qk) (a:=x.name) (m:=m) rfl rfl Zn rfl rfl rfl ?_;cases f:pR m x.name with
  |none=>
   have i:po m x=tq m x.name x:=by unfold po;rw[f]
   rw[G6,f];refine U ?_;intro G;refine U ?_;iterate 3 (refine pA ?_;refine U ?_)
   refine E0 (ke:=sv) (ve:=qk) (a:=x.name) (v:=x) (m:=m) rfl rfl rfl (by(first|exact p0|exact p1 p0|exact p1 (p1 p0)|exact p1 (p1 (p1 p0))|exact p1 (p1 (p1 (p1 p0)))|exact p1 (p1 (p1 (p1 (p1 p0))))|exact p1 (p1 (p1 (p1 (p1 (p1 p0)))))|exact p1 (p1 (p1 (p1 (p1 (p1 (p1 p0)))))))) rfl (λ_=>trivial) rfl ?_;refine U ?_;iterate 3 (refine pA ?_;refine U ?_)
   exact⟨[k4 b 161 [.map (some gm)],nG gm sv qk (tq m x.name x),fz d],.of Zu,by show _=[_,nG gm sv qk ((pre++[x]).foldl po []),_];rw[j,i]⟩
  |some ru=>
   have i:po m x=if xO x.pg ru.pg=true then m else tq m x.name x:=by unfold po;rw[f]
   rw[G6,f];refine U ?_;intro G;refine U ?_;iterate 3 (refine pA ?_;refine U ?_)
   refine md (IC x.pg ru.pg W _) ?_;cases o:xO x.pg ru.pg with
   |true=>(refine U ?_;iterate 3 (refine pA ?_;refine U ?_));exact⟨[k4 b 161 [.map (some gm)],nG gm sv qk m,fz d],.of Zu,by show _=[_,nG gm sv qk ((pre++[x]).foldl po []),_];rw[j,i,aj o]⟩
   |false=>
    (refine U ?_;iterate 3 (refine pA ?_;refine U ?_));refine E0 (ke:=sv) (ve:=qk) (a:=x.name) (v:=x) (m:=m) rfl rfl rfl (by(first|exact p0|exact p1 p0|exact p1 (p1 p0)|exact p1 (p1 (p1 p0))|exact p1 (p1 (p1 (p1 p0)))|exact p1 (p1 (p1 (p1 (p1 p0))))|exact p1 (p1 (p1 (p1 (p1 (p1 p0)))))|exact p1 (p1 (p1 (p1 (p1 (p1 (p1 p0)))))))) rfl (λ_=>trivial) rfl ?_;refine U ?_;iterate 3 (refine pA ?_;refine U ?_)
    exact⟨[k4 b 161 [.map (some gm)],nG gm sv qk (tq m x.name x),fz d],.of Zu,by show _=[_,nG gm sv qk ((pre++[x]).foldl po []),_];rw[j,i,ai (by simp[o])]⟩
 ·rintro D _ _ rfl rfl;refine U ?_;refine kS ?_;refine⟨_,o0,?_⟩;exact lj results61 Zt (Bq (es:=[_]) k Zu) ⟨_,rfl,gm,rfl,rfl⟩
end
section
open Go.ChangeShapes Go.WideShapes Go.ChangeAt Go.RowKit Go.Deep
theorem WV(b off i j:Nat):((⟨b,off,none⟩:Addr).add i).add j=⟨b,off+i+j,none⟩:=by
 unfold Addr.add;by_cases c:i=0
 ·by_cases a:j=0;·simp[c,a]
  ·simp[c,a]
 ·by_cases a:j=0;·simp[c,a]
  ·simp[c,a]
theorem JT{W w:World}(h:Mem W w [pu W]):∀k,k<W.heap.size->w.heap[k]? =W.heap[k]?:=by have:=(h.ok _ (ay ..)).holds;unfold pu at this;exact this
def oJ(P:Program)(W:World)(e:TypeId){α:Type}(enc:α->List Value)(G:α->Prop):Prop:=∀(H:Type) (a:TypeId×Value->H) (b:Nat) (cs:List Value) (y:DataW H×List MemPlace),DataW.trod a P W 0 (λ_=>true) true b e cs=some y->∃x,cs=enc x/\G x
structure G7(α:Type) where
 A:Option Addr
 c:Nat
 l:List α
def DN{α:Type}(s:G7 α):List Value:=[.slice s.A s.l.length s.c]
structure DO{α:Type}(W:World)(size:Nat)(enc:α->List Value)(G:α->Prop)(s:G7 α):Prop where
 le:s.l.length<=s.c
 max:s.c<=maxLen
 rd:oq W [pu W] (Rd s.A size enc s.l)
 all:∀x∈s.l,G x
section
variable{P:Program}{W:World}
theorem oJ.int{t:TypeId}{k:IntKind}(a:P.underlying t=some (.int k)):oJ P W t (λn:Int=>[.int k n]) (λn=>(Lit.int k n).wf=true):=by intro H d e cs y h;obtain⟨n,b,_,c⟩:=jR a h;exact⟨n,b,c⟩
theorem oJ.bool{t:TypeId}(a:P.underlying t=some .bool):oJ P W t (λb:Bool=>[.bool b]) (λ_=>True):=by intro H d e cs y h;obtain⟨b,c,_⟩:=DataW.trod_bool a h;exact⟨b,c,trivial⟩
theorem oJ.string{t:TypeId}(a:P.underlying t=some .string):oJ P W t (λs:ByteArray=>[.string s]) (λs=>s.size<=maxLen):=by intro H e f cs y h;obtain⟨b,c,_,d⟩:=DataW.trod_string a h;exact⟨b,c,d⟩
theorem OY{α:Type}{R:Nat->α->Prop}:∀len:Nat,(∀i,i<len->∃x,R i x)->∃l:List α,l.length=len/\∀i x,l[i]? =some x->R i x
 |0,_=>⟨[],rfl,λi x h=>by simp at h⟩
 |n+1,h=>by
  obtain⟨l,hl,d⟩:=OY n (λi b=>h i Zo);obtain⟨x,e⟩:=h n Zo;refine⟨l++[x],by simp[hl],λi y a=>?_⟩;by_cases b:i<l.length;·rw[cG b] at a;exact d i y a
  ·rw[bZ Zo] at a;have:i-l.length=0:=by(rcases cM (i-l.length) with c|c;·exact c);·rw[dL (by simp;omega)] at a;cases a
   rw[this] at a;simp at a;subst a;have:i=n:=by omega
   subst this;exact e
theorem oJ.slice{t e:TypeId}{size:Nat}{α:Type}{enc:α->List Value}{G:α->Prop}[A:m6 enc size](B:P.underlying t=some (.slice e))(C:P.cellsOf e=size)(E:0<size)(F:oJ P W e enc G):oJ P W t DN (DO W size enc G):=by
 intro H I kG cs y h;rcases open_slice B h with⟨rfl,_⟩|⟨a,len,cap,m,n,D,Pl,rfl,_,hl,J,p,_,q⟩
 ·exact⟨⟨none,0,[]⟩,rfl,aA _,by show 0<=maxLen;omega,λ_ _=>Il,by simp⟩
 ·simp only[cc] at p;subst p;rw[C] at q;obtain⟨l,lL,v⟩:=OY (R:=λi x=>W.cells? 0 (a.add (i*size)) size=some (enc x)/\G x) len (λi kH=>by obtain⟨kI,K,L⟩:=q i Zo;obtain⟨x,rfl,M⟩:=F H I _ _ _ L;exact⟨x,K,M⟩);refine⟨⟨some a,m,l⟩,by simp[DN,lL],by simp only;omega,J,?_,λx d=>?_⟩
  ·intro w N O;have z:∀i j x u,l[i]? =some x->(enc x)[j]? =some u->W.cell? ((a.add (i*size)).add j)=some u:=λi j x u d f=>by(obtain⟨_,kJ,Q⟩:=World.cells?_some (v i x d).1;have S:j<size:=by have:=(ax.1 f).1;omega);rw[Q j S];exact f
   obtain⟨x0,T⟩:∃x,l[0]? =some x:=by
    cases l with
    |nil=>exact absurd rfl O
    |cons x r=>exact⟨x,rfl⟩
   obtain⟨V,X⟩:∃u,(enc x0)[0]? =some u:=⟨_,ad (by rw[A.len];exact E)⟩;have c:=z 0 0 x0 V T X;obtain⟨b,off,g⟩:=a;have Y:g=none/\b<W.heap.size:=by
    rw[show((⟨b,off,g⟩:Addr).add (0*size)).add 0=⟨b,off,g⟩ from by simp[Addr.add]] at c;unfold World.cell? at c;simp only at c;split at c
    ·rename_i o;refine⟨?_,(aO.1 o).1⟩;cases g with
     |none=>rfl
     |some s=>simp at c
    ·cases c
   obtain⟨rfl,o⟩:=Y;refine⟨b,off,rfl,λi j x u d f=>?_⟩;have k:=z i j x u d f;have h2:w.heap[b]? =W.heap[b]?:=JT N b o;rw[WV] at k;unfold World.cell? at k⊢;simp only at k⊢;rw[h2,<-eX];exact k
  ·obtain⟨i,kF,rfl⟩:=cr d;exact(v i _ (ad kF)).2
theorem AC{H:Type}{a:TypeId×Value->H}{n:Nat}{f:Field}{cs:List Value}{xs:List (DataW H×List MemPlace)}{i off s:Nat}{α:Type}{enc:α->List Value}{G:α->Prop}(h:DataW.trod a P W 0 (λ_=>true) true n f.type ((cs.drop f.offset).take (P.cellsOf f.type))=xs[i]?) (c:i<xs.length) (b:f.offset=off/\P.cellsOf f.type=s) (d:oJ P W f.type enc G):∃x,(cs.drop off).take s=enc x/\G x:=by rw[b.1,b.2,ad c] at h;exact d H a _ _ _ h
theorem JU{H:Type}{b:TypeId×Value->H}{t e:TypeId}{α:Type}{enc:α->List Value}{G:α->Prop}{r:Reach}{b0 size:Nat}{v:Value}{d:DataW H}{p:List MemPlace}(f:P.underlying t=some (.slice e))(g:oJ P W t (DN (α:=α)) (DO W size enc G)) (i:Value.okWide P W r b0 t v) (h:DataW.Trod b P W 0 (λ_=>true) true t v d p):∃s:G7 α,v=.slice s.A s.l.length s.c/\DO W size enc G s:=by obtain⟨a,len,cap,rfl⟩:=okWide_slice f i;obtain⟨m,hf⟩:=h;obtain⟨s,j,k⟩:=g H b _ _ _ hf;refine⟨s,?_,k⟩;simpa[DN,Value.cells] using j
theorem OZ{H:Type}{a:TypeId×Value->H}{t:TypeId}{k:IntKind}{r:Reach}{b0:Nat}{v:Value}{d:DataW H}{p:List MemPlace}(b:P.underlying t=some (.int k))(c:Value.okWide P W r b0 t v) (h:DataW.Trod a P W 0 (λ_=>true) true t v d p):∃n,v=.int k n/\(Lit.int k n).wf=true:=by obtain⟨n,e,_,_,f⟩:=open_int b c h;exact⟨n,e,f⟩
theorem O0{H:Type}{i:TypeId×Value->H}(hl:laidOutB P=true){j:World}(k:Below W.heap.size W j):∀{a:List TypeId} {vs:List Value} {ds:List (DataW H)} {c:List MemPlace},(∀t∈a,P.readableRec t=true/\t<P.types.size)->DataW.TrodAll i P W 0 (λ_=>true) true a vs ds c->(∀x∈c,x.block<W.heap.size)->DataW.TrodAll i P j 0 (λb=>decide (b<W.heap.size)) true a vs ds c
 |[],[],[],_,_,h,_=>h
 |t::a,v::vs,d::ds,c,f,⟨p,q,m,n,e⟩,l=>⟨p,q,Below.trod hl (f t (ay ..)).1 (f t (ay ..)).2 m k (λx g=>l x (by rw[e];exact cy _ g)),O0 hl k (λt o=>f t (aI _ o)) n (λx g=>l x (by rw[e];exact cZ _ g)),e⟩
theorem O1{a:World}(h:Mem W a [pu W]):Below W.heap.size W a:=⟨h.os,h.tape,h.output,h.size,JT h⟩
theorem JV(W:World):Mem W W [pu W]:=⟨rfl,rfl,rfl,aA _,aA _,λe a=>by simp only[aJ,cQ,eG] at a;subst a;unfold pu;exact⟨λ_ h=>h,λ_ _=>rfl⟩,by simp⟩
theorem JW{H:Type}{f:TypeId×Value->H}{fn:Func}{s:ChangeSpec}{l:World}{args:Array Value}{ds gs:List (DataW H)}{e:List MemPlace}{b:TypeId}(hl:laidOutB P=true)(w:∀t∈fn.params.toList,P.readableRec t=true/\t<P.types.size) (y:P.underlying b=some .bool) (z:fn.resultTypes=#[b]) (m:s.vars=[])(A:∀ds:List (DataW H),ds.length=fn.params.size->s.fn H ds={results:=[.lit (.bool true)],args:=ds})
 (i:DataW.Whole f P fn.params.toList s.vars false W args.toList ds gs e) (n:Mem W l [pu W]):s.post f P fn false true false false W args (.bool true) l:=by
 have B:∀x∈e,x.block<W.heap.size:=λx a=>i.lt x a;have C:=i;obtain⟨p,q,o,j,u,_,_⟩:=C;have D:ds.length=fn.params.size:=by
  have:∀{c:List TypeId} {vs:List Value} {ds:List (DataW H)} {k:List MemPlace},DataW.TrodAll f P W 0 (λ_=>true) true c vs ds k->ds.length=c.length:=by
   intro c;induction c with
   |nil=>intro vs ds k h;obtain⟨_,rfl,_⟩:=trodAll_nil h;rfl
   |cons t c E=>intro vs ds k h;obtain⟨v,I,d,J,p,q,rfl,rfl,rfl,_,F⟩:=trodAll_cons h;simp[E F]
  simpa using this o
 rw[m] at j;have G:gs=[]/\q=[]:=by
  cases gs with
  |nil=>exact⟨rfl,j⟩
  |cons g r=>exact j.elim
 obtain⟨rfl,rfl⟩:=G;have hf:s.fn H (ds++[])={results:=[.lit (.bool true)],args:=ds}:=by rw[aP];exact A ds D
 refine⟨ds,[],e,[],p,[],i,?_,?_,?_,?_,λh=>by cases h⟩;·rw[hf,z];exact trodAll_mk1 ⟨1,by simp[DataW.trod,Value.cells,y]⟩
 ·rw[hf];exact O0 hl (O1 n) w o (λx a=>B x (by rw[u];simpa using a))
 ·rw[hf,m];rfl
 ·refine World.keptBut_mono (λx a=>⟨a,?_⟩) ((O1 n).frame (·∈e));rw[u] at a;exact .inr (.inl (by simpa using a))
end
end
section
open Top Proofs.Tryz
def O2:Go.Shelf.Ren:=⟨λ|6=>200|15=>248|14=>247|28=>284|29=>285|20=>276|21=>277|22=>278|23=>279|24=>280|25=>281|26=>282|27=>283|46=>300|47=>301|48=>302|49=>303|50=>304|57=>311|n=>n,λ|22=>60|24=>9|25=>240|3=>3|39=>398|0=>0|53=>373|55=>433|4=>4|46=>426|45=>425|50=>140|5=>5|9=>9|66=>444|70=>322|76=>453|77=>454|n=>n,λ|n=>n⟩
theorem O3:Go.Proofs.SlLaysF.n6 prog O2:={
 mixed:=by kernel_rfl
 f6:=⟨f200.name,by decide,func200.trans (congrArg some Zk)⟩
 f14:=⟨f247.name,by decide,func247.trans (congrArg some Zk)⟩
 f15:=func248.trans (congrArg some Zk)
 f20:=⟨f276.name,by decide,func276.trans (congrArg some Zk)⟩
 f21:=⟨f277.name,by decide,func277.trans (congrArg some Zk)⟩
 f22:=⟨f278.name,by decide,func278.trans (congrArg some Zk)⟩
 f23:=⟨f279.name,by decide,func279.trans (congrArg some Zk)⟩
 f24:=⟨f280.name,by decide,func280.trans (congrArg some Zk)⟩
 f25:=⟨f281.name,by decide,func281.trans (congrArg some Zk)⟩
 f26:=⟨f282.name,by decide,func282.trans (congrArg some Zk)⟩
 f27:=⟨f283.name,by decide,func283.trans (congrArg some Zk)⟩
 f28:=func284.trans (congrArg some Zk)
 f29:=func285.trans (congrArg some Zk)
 f46:=⟨f300.name,by decide,func300.trans (congrArg some Zk)⟩
 f47:=func301.trans (congrArg some Zk)
 f48:=func302.trans (congrArg some Zk)
 f49:=⟨f303.name,by decide,func303.trans (congrArg some Zk)⟩
 f50:=⟨f304.name,by decide,func304.trans (congrArg some Zk)⟩
 f57:=⟨f311.name,by decide,func311.trans (congrArg some Zk)⟩
 t0:=underlying0
 a0:=isAgg0
 z0:=sizeOf0
 v0:=zeroValue0
 t3:=underlying3
 a3:=isAgg3
 z3:=sizeOf3
 v3:=zeroValue3
 t4:=underlying4
 a4:=isAgg4
 z4:=sizeOf4
 v4:=zeroValue4
 t5:=underlying5
 a5:=isAgg5
 z5:=sizeOf5
 v5:=zeroValue5
 t9:=underlying9
 a9:=isAgg9
 z9:=sizeOf9
 v9:=zeroValue9
 t22:=underlying60
 a22:=isAgg60
 z22:=sizeOf60
 v22:=zeroValue60
 a24:=isAgg9
 z24:=sizeOf9
 t25:=underlying240
 a25:=isAgg240
 z25:=sizeOf240
 v25:=zeroValue240
 t39:=underlying398
 a39:=isAgg398
 z39:=sizeOf398
 v39:=zeroValue398
 t45:=underlying425
 a45:=isAgg425
 z45:=sizeOf425
 v45:=zeroValue425
 t46:=underlying426
 a46:=isAgg426
 z46:=sizeOf426
 v46:=zeroValue426
 t50:=underlying140
 a50:=isAgg140
 z50:=sizeOf140
 v50:=zeroValue140
 t53:=underlying373
 a53:=isAgg373
 z53:=sizeOf373
 v53:=zeroValue373
 t55:=underlying433
 a55:=isAgg433
 z55:=sizeOf433
 v55:=zeroValue433
 t66:=underlying444
 a66:=isAgg444
 z66:=sizeOf444
 v66:=zeroValue444
 t70:=underlying322
 a70:=isAgg322
 z70:=sizeOf322
 v70:=zeroValue322
 t76:=underlying453
 a76:=isAgg453
 z76:=sizeOf453
 v76:=zeroValue453
 t77:=underlying454
 a77:=isAgg454
 z77:=sizeOf454
 v77:=zeroValue454}
def G8(a b:kV):Int:=if re a b=true then -1 else if re b a=true then 1 else 0
theorem WW(a b:kV)(c:a.length<=1000000000)(d:b.length<=1000000000):Pf prog 127 #[sv a,sv b] (nI (G8 a b)):=λW L=>by
 refine enter func127 ?_;refine U ?_;refine md (Nv a b c d W _) ?_;unfold G8;cases e:re a b with
 |true=>refine U ?_;refine kS ?_;exact lj results127 Zt lv ⟨rfl,rfl⟩
 |false=>
  refine U ?_;refine md (Nv b a d c W _) ?_;cases f:re b a with
  |true=>refine U ?_;refine kS ?_;exact lj results127 Zt lv ⟨rfl,rfl⟩
  |false=>refine U ?_;refine kS ?_;exact lj results127 Zt lv ⟨rfl,rfl⟩
abbrev DP:={s:kV//s.length<=1000000}
instance:Inhabited DP:=⟨[],by simp⟩
def yb(x:DP):Value:=sv x.1
def Cs(x y:DP):Int:=G8 x.1 y.1
theorem Fi(x y:DP):ltOf Cs x y=re x.1 y.1:=by
 unfold ltOf Cs G8;cases a:re x.1 y.1 with
 |true=>simp
 |false=>cases b:re y.1 x.1<;>simp
theorem O4:Go.Sort.SWO (ltOf Cs) where
 irrefl x:=by rw[Fi];exact Na _
 trans x y z a b:=by rw[Fi] at*;exact I5 a b
 ntrans x y z a b:=by rw[Fi] at*;exact Nc a b
theorem WX(x y:DP)(a:ltOf Cs x y=false)(b:ltOf Cs y x=false):x=y:=by rw[Fi] at*;exact Subtype.ext (I6 a b)
theorem WY{W w':World}(h:Mem W w' [pu W]):∃q e,w'=Go.Sort.grow (W.drewN q) e:=by
 refine⟨w'.drawn-W.drawn,w'.heap.extract W.heap.size w'.heap.size,?_⟩;have f:=JT h;have g:=h.drawn;have k:=h.size;have a:w'.heap=W.heap++w'.heap.extract W.heap.size w'.heap.size:=by
  refine Array.ext_getElem? λi=>?_;rw[eQ];split;·rename_i j;exact f i j
  ·rename_i l;rw[Array.getElem?_extract];split;·congr 1;omega
   ·rename_i m;rw[dX Zo]
 cases w' with
 |mk heap tape drawn os output=>have b:=h.os;have c:=h.tape;have d:=h.output;simp only at b c d a g;unfold Go.Sort.grow World.drewN;simp only[World.mk.injEq];exact⟨a,c,by omega,b,d⟩
theorem WZ(k4 off size:Nat)(w:World):CmpLays1 prog 127 #[] yb Cs k4 off size w:=λm os b c x y=>by have d:=x.2;have f:=y.2;refine fF ((WW x.1 y.1 Zo Zo _ _).out _ (JV _)) ?_;rintro e w' ⟨v,L',rfl,a,rfl,rfl⟩;exact⟨rfl,WY a⟩
theorem W0:∃k:Int,Pf prog 248 #[.int .u64 0] (nI k):=⟨_,λW L=>.of (As func248) λw a=>(Any.bits_Len (SlLaysF0.n15.bits (P:=prog) (ρ:=O2) {O3 with}) 0 w Zo Zo).mono λe w' ⟨b,c⟩=>by subst c;exact⟨_,L,b,a,rfl,rfl⟩⟩
theorem W2(A:Option Addr)(c:Nat):Pf prog 276 #[.slice A 0 c,nI 0,nI 0,.func (.func 127) #[] #[]] (.tuple #[]):=λW L=>by refine enter func276 ?_;refine U ?_;refine mP (λm σ L'=>m=0/\L'=L/\ml σ [(2,nI 0),(8,nI 1)]) 0 _ (s1 _) ⟨rfl,rfl,rfl,rfl,trivial⟩ ?_;rintro m σ _ ⟨rfl,rfl,a⟩;obtain⟨b,rfl⟩:=a.open;refine U ?_;exact xK results276 ⟨rfl,rfl⟩
theorem W3(A:Option Addr)(c:Nat)(k:Int):Pf prog 247 #[.slice A 0 c,nI 0,nI 0,nI k,.func (.func 127) #[] #[]] (.tuple #[]):=λW L=>by refine enter func247 ?_;refine U ?_;refine mP (λm σ L'=>m=0/\L'=L/\ml σ [(0,.slice A 0 c),(1,nI 0),(2,nI 0),(4,.func (.func 127) #[] #[])]) 0 _ (s1 _) ⟨rfl,rfl,rfl,rfl,rfl,rfl,trivial⟩ ?_;rintro m σ _ ⟨rfl,rfl,a⟩;obtain⟨b,rfl⟩:=a.open;refine U ?_;refine md (W2 A c W _) ?_;refine U ?_;refine kS ?_;exact AS results247 ⟨rfl,rfl⟩
theorem W4(A:Option Addr)(c:Nat):Pf prog 200 #[.slice A 0 c,.func (.func 127) #[] #[]] (.tuple #[]):=λW L=>by obtain⟨k,a⟩:=W0;refine enter func200 ?_;refine U ?_;refine xN (b:=0) rfl rfl rfl rfl rfl rfl ?_;refine U ?_;refine md (a W _) ?_;refine U ?_;refine md (W3 A c k W _) ?_;refine U ?_;exact xK results200 ⟨rfl,rfl⟩
theorem W5(b:List kV)(I:∀s∈b,s.length<=1000000)(lL:b.length<=1000000)(A:Option Addr)(c:Nat):Ce prog 200 #[.slice A b.length c,.func (.func 127) #[] #[]] (li 9 1 ni A c b) (.tuple #[]) (li 9 1 ni A c (rising b)):=λW L=>by
 by_cases t:b=[];·subst t;exact(W4 A c W _).mono λv L' ⟨J,K⟩=>⟨J,K⟩
 ·refine .of (As func200) λw C=>?_;obtain⟨d,u⟩:∃d:Array DP,d.toList.map (·.1)=b:=⟨(b.pmap Subtype.mk I).toArray,by simp[List.map_pmap]⟩;have y:d.size=b.length:=by rw[<-u];simp
  have kY:0<b.length:=cA.2 t;have M:∀j,j<d.size->b[j]? =some d[j]!.1:=λj o=>by rw[<-u,bP,dM,gI o,iv d j o];rfl
  have N:=uE (C.ok _ (ay ..)).holds;rcases N with⟨_,h⟩|⟨g,cur,z,rfl,q,h6,O,h8,P⟩
  ·exact absurd h t
  have Q:g<w.heap.size:=(aO.1 q).1;have R:∀j,j<d.size->cur[j]? =some (yb d[j]!):=λj o=>by
   have D:(cur.toList.take (b.length*1))[j]? =(b.flatMap ni)[j]?:=by rw[P]
   rw[cx Zo,dM] at D;rw[D];have T:=BM (enc:=ni) (size:=1) (λ_=>rfl) b j 0 _ (yb d[j]!) (M j o) rfl;simpa using T
  have V:Go.Sort.Holds yb w g 0 d:=λj o=>⟨by rw[cV,dS w g j cur 9 (0,0) q];exact R j o,by simp[World.frozen?,q]⟩;have E:=Any.slices_SortFunc O3 yb (λ_=>rfl) Cs O4 127 #[] g 0 c d w (As func127) (WZ g 0 d.size w) V Q Zo;rw[y] at E;refine fF E ?_;rintro e w' ⟨X,f,n,os,hp,B,rfl⟩;rw[<-y] at hp B;have Y:=Go.Sort.sorted_unique_holds O4 WX d f hp B;have kZ:f.size=b.length:=by rw[hp.1,y]
  have kF:f.toList.map (·.1)=rising b:=by
   refine Ng ?_ ?_;·rw[Y,<-u];exact(List.mergeSort_perm _ _).map _
   ·unfold Bs;rw[ey,fb];intro i j hi o kG;have kH:i<f.size:=by simpa using hi
    have kI:j<f.size:=by simpa using o
    have:=B i j (aR _) kG Zo;rw[Fi,iv f i kH,iv f j kI] at this;simpa using this
  refine⟨_,_,X,?_,rfl,rfl⟩;have kJ:∀l:List kV,l.flatMap ni=l.map sv:=λl=>by
   induction l with
   |nil=>rfl
   |cons a l ih=>rw[bj,ih];rfl
  have r:(sortWorld yb w g 0 n f os).heap=(w.heap.modify g (Go.Sort.onCells (Go.Sort.putCells yb 0 f)))++os:=rfl;have F:(w.heap.modify g (Go.Sort.onCells (Go.Sort.putCells yb 0 f))).size=w.heap.size:=by simp
  have kL:(sortWorld yb w g 0 n f os).heap[g]? =some (.cells (Go.Sort.putCells yb 0 f cur) 9 (0,0)):=by rw[r,eQ,aj Zo,eR,aj rfl,q];rfl
  have kO:(rising b).length=b.length:=(x8 b).length_eq;have rU:(Go.Sort.putCells yb 0 f cur).size=cur.size:=by unfold Go.Sort.putCells;simp
  have kQ:Own 9 1 ni (some ⟨g,0,none⟩) c (rising b) (sortWorld yb w g 0 n f os):=by
   refine .inr ⟨g,_,z,rfl,kL,by omega,O,by omega,?_⟩;rw[kO,kJ];refine cK λk=>?_;rw[dP];split
   ·rename_i m;have G:k<f.size:=by omega
    (have kT:k<cur.size:=by omega);rw[<-kF,ex,bP,dM,dM,gI G];unfold Go.Sort.putCells;rw[Array.getElem?_mapIdx,gI kT];simp only[aW];rw[aj ⟨aR _,by omega⟩,Nat.sub_zero,iv f k G];rfl
   ·rename_i m;rw[dL (by rw[bO];omega)]
  have H:∀k,(li 9 1 ni (some ⟨g,0,none⟩) c (rising b)).S k->k=g:=λk m=>by obtain⟨_,a,ha,m⟩:=yK.1 m;cases ha;exact m.symm
  refine C.change (es:=[li 9 1 ni (some ⟨g,0,none⟩) c (rising b)]) rfl rfl rfl (by rw[r,fP,F];omega) (λk m hn=>?_) ?_ ?_ Zs (by show w.drawn<=w.drawn+n;omega);·have kX:g≠k:=λe=>hn (yK.2 ⟨z,_,rfl,e⟩);rw[r,eQ,aj Zo,eR,ai kX]
  ·intro x p;simp only[aE] at p;subst p;exact⟨λk m=>by rw[H k m,r,fP,F];omega,IK kQ⟩
  ·intro x p k m;simp only[aE] at p;subst p;exact .inl (yK.2 ⟨z,_,rfl,(H k m).symm⟩)
end
end Go.Proofs.YtkbifmngmocjnaaGreatDoor
