/- Proved here, packed: what the parts Callb Wlay Wput Wtake Own Again Way Walks Aft Reca Recb Diska prove (rules of the walk, contracts of functions, plain laws). Conditions: in each statement. -/
import Derived.Test.YtkbifmngmocjnaaGreatDoorPAK
import Derived.Test.YtkbifmngmocjnaaGreatDoorPAG
namespace Go.Proofs.YtkbifmngmocjnaaGreatDoor
set_option maxRecDepth 100000
set_option maxHeartbeats 8000000
set_option linter.all false
section
open Top Proofs.Tryz
theorem NW(k:Int):BV k=(zI k).map λn=>(decide (n&&& 1≠0),decide (n&&& 2≠0),decide (n&&& 4≠0),decide (n&&& 8≠0)):=by
 unfold BV zI
 repeat' split
 all_goals rfl
theorem VP{k:Int}{n:Nat}(h:zI k=some n):n<16:=by
 unfold zI at h
 repeat' split at h
 all_goals first|(cases h;decide)|cases h
def Ds(n b:Nat)(x y:Bool):Bool:=if n&&& b=0 then y else x
theorem VQ{c:mo}{n:Nat}(h:zI c.kind=some n):uZ c=(Ds n 1 ((oy c.path).isSome) (c.path==[])&&Ds n 2 ((oy c.to).isSome) (c.to==[])&& Ds n 4 (decide (c.data.length<=if c.kind=13 then 4000 else 64)) (c.data==[])&&Ds n 8 (decide (0<=c.n)) (c.n==0)):=by unfold uZ;rw[NW,h];simp only[aW,Ds,bz,ne_eq,ite_not]
theorem VR{c:mo}(h:zI c.kind=none):uZ c=false:=by unfold uZ;rw[NW,h];rfl
theorem VS(H:kM)(c:mo)(l:c.path.length<=1000000000)(m:c.to.length<=1000000000)(o:c.data.length<=1000000000):Fn prog 36 #[.agg (qL c).toArray] H (λ_ r=>r=.bool (uZ c)):=λW L=>by
 refine enter func36 ?_;refine U ?_;intro p;refine U ?_;refine md (VN c.kind W _) ?_;cases g:zI c.kind with
 |none=>rw[VR g];refine U ?_;intro a;refine U ?_;refine kS ?_;exact lX (c1 (c1 c0)) results36 Zt (λ_ _ _=>rfl)
 |some n=>
  rw[VQ g];simp only[Ds];have b:=VP g;refine U ?_;intro a;refine U ?_;refine C5 (hf:=f1 f0) o0 ?_;intro d q e;by_cases f:c.kind=13
  ·rw[aj f,show(c.kind==13)=true from by simpa using f];refine U ?_;refine nq [0,1,2,4,5,6,3,7,8,9,10,11,13,14,15,12,16,17,18,19,20,21,22,23,24,25,26,27,28,29,30,31,32,33,34,35,36,37,38,39,40] Zk Zk Zk Zk Zk (λ_ _ _ h=>h) ?_;refine U ?_;refine md (GF c.path l W _) ?_;refine U ?_;refine mi (fst:=[]) (cap:=[.pointer (some ⟨a,0,none⟩)]) (Bt d a n 1 e _ _ Zo b) ?_;generalize(if n&&& 1=0 then(c.path==[]) else(oy c.path).isSome)=p1;cases p1 with
   |false=>refine U ?_;refine kS ?_;exact lX (c1 c0) results36 Zt (λ_ _ _=>rfl)
   |true=>
    refine U ?_;refine md (GF c.to m W _) ?_;refine U ?_;refine mi (fst:=[]) (cap:=[.pointer (some ⟨a,0,none⟩)]) (Bt d a n 2 e _ _ Zo b) ?_;generalize(if n&&& 2=0 then(c.to==[]) else(oy c.to).isSome)=i;cases i with
    |false=>refine U ?_;refine kS ?_;exact lX (c1 c0) results36 Zt (λ_ _ _=>rfl)
    |true=>
     refine U ?_;rw[show decide ((c.data.length:Int)<=4000)=decide (c.data.length<=4000) from by rw[decide_eq_decide];omega];refine mi (fst:=[]) (cap:=[.pointer (some ⟨a,0,none⟩)]) (Bt d a n 4 e _ _ Zo b) ?_;generalize(if n&&& 4=0 then(c.data==[]) else decide (c.data.length<=4000))=j;cases j with
     |false=>refine U ?_;refine kS ?_;exact lX (c1 c0) results36 Zt (λ_ _ _=>rfl)
     |true=>
      refine U ?_;refine mi (fst:=[]) (cap:=[.pointer (some ⟨a,0,none⟩)]) (Bt d a n 8 e _ _ Zo b) ?_;generalize(if n&&& 8=0 then(c.n==0) else decide (0<=c.n))=k;cases k with
      |false=>refine U ?_;refine kS ?_;exact lX (c1 c0) results36 Zt (λ_ _ _=>rfl)
      |true=>refine U ?_;refine kS ?_;exact lX (c1 c0) results36 Zt (λ_ _ _=>rfl)
  ·rw[ai f,show(c.kind==13)=false from by simpa using f];refine U ?_;refine nq [0,1,2,4,5,6,3,7,8,9,10,11,13,14,15,12,16,17,18,19,20,21,22,23,24,25,26,27,28,29,30,31,32,33,34,35,36,37,38,39,40] Zk Zk Zk Zk Zk (λ_ _ _ h=>h) ?_;refine U ?_;refine md (GF c.path l W _) ?_;refine U ?_;refine mi (fst:=[]) (cap:=[.pointer (some ⟨a,0,none⟩)]) (Bt d a n 1 e _ _ Zo b) ?_;generalize(if n&&& 1=0 then(c.path==[]) else(oy c.path).isSome)=p1;cases p1 with
   |false=>refine U ?_;refine kS ?_;exact lX (c1 c0) results36 Zt (λ_ _ _=>rfl)
   |true=>
    refine U ?_;refine md (GF c.to m W _) ?_;refine U ?_;refine mi (fst:=[]) (cap:=[.pointer (some ⟨a,0,none⟩)]) (Bt d a n 2 e _ _ Zo b) ?_;generalize(if n&&& 2=0 then(c.to==[]) else(oy c.to).isSome)=i;cases i with
    |false=>refine U ?_;refine kS ?_;exact lX (c1 c0) results36 Zt (λ_ _ _=>rfl)
    |true=>
     refine U ?_;rw[show decide ((c.data.length:Int)<=64)=decide (c.data.length<=64) from by rw[decide_eq_decide];omega];refine mi (fst:=[]) (cap:=[.pointer (some ⟨a,0,none⟩)]) (Bt d a n 4 e _ _ Zo b) ?_;generalize(if n&&& 4=0 then(c.data==[]) else decide (c.data.length<=64))=j;cases j with
     |false=>refine U ?_;refine kS ?_;exact lX (c1 c0) results36 Zt (λ_ _ _=>rfl)
     |true=>
      refine U ?_;refine mi (fst:=[]) (cap:=[.pointer (some ⟨a,0,none⟩)]) (Bt d a n 8 e _ _ Zo b) ?_;generalize(if n&&& 8=0 then(c.n==0) else decide (0<=c.n))=k;cases k with
      |false=>refine U ?_;refine kS ?_;exact lX (c1 c0) results36 Zt (λ_ _ _=>rfl)
      |true=>refine U ?_;refine kS ?_;exact lX (c1 c0) results36 Zt (λ_ _ _=>rfl)
theorem VT(c:mo)(a:c.path.length<=1000000000)(b:c.to.length<=1000000000)(d:c.data.length<=1000000000):Pf prog 36 #[.agg (qL c).toArray] (.bool (uZ c)):=Fn.pf λH=>VS H c a b d
structure Aw where
 A:Option Addr
 c:Nat
 l:List nk
def zJ(s:Aw):List Value:=[.slice s.A s.l.length s.c]
instance:m6 zJ 1:=⟨λ_=>rfl,λx v a=>by simp[zJ] at a;subst a;rfl⟩
def rk(a:List Aw):List nk:=a.flatMap (·.l)
theorem NX(a:List Aw)(k:Nat)(s:Aw)(h:a[k]? =some s):rk (a.take (k+1))=rk (a.take k)++s.l:=by unfold rk;rw[aT,h];simp
theorem GG(a:List Aw)(k:Nat):(rk (a.take k)).length<=(rk a).length:=by
 unfold rk;conv=>rhs;rw[<-bT k a]
 simp only[bD,ak];omega
def NY:nk:=⟨0,[]⟩
theorem Ax(H:kM)(B:Option Addr)(d:Nat)(a:List Aw)(hl:a.length<=1000000)(E:(rk a).length<=1000000)(F:H.kn (Rd B 1 zJ a))(z:∀s∈a,H.kn (Rd s.A 2 nY s.l)):Mk prog 165 #[.slice B a.length d] H (λes v=>∃A c,es=[li 68 2 nY A c (rk a)]/\v=.slice A (rk a).length c):=λW L=>by
 refine enter func165 ?_;refine U ?_;refine mP (λr σ L'=>fz H::L=L'/\∃k:Nat,k<=a.length/\r=a.length-k/\ml σ [(0,.slice B a.length d),(3,nN (rk (a.take k)).length),(9,.slice B a.length d),(10,nN a.length),(11,nN k)]) a.length
  _ (s1 _) ⟨rfl,0,by omega,by omega,⟨rfl,rfl,rfl,rfl,rfl,trivial⟩⟩ ?_
 rintro r σ _ ⟨rfl,k,C,rfl,i⟩;obtain⟨t,rfl⟩:=i.open;have n:=GG a k;refine U ?_;refine mE rfl (λb=>?_) (λb=>?_)
 ·have p:k<a.length:=by have:=am b;omega
  obtain⟨s,j⟩:∃e,a[k]? =some e:=⟨_,ad p⟩;have f:=NX a k s j;have m:=GG a (k+1);rw[f,ak] at m;refine U ?_;refine⟨a.length-(k+1),_,by omega,s1 _,rfl,k+1,by omega,rfl,⟨rfl,?_,rfl,rfl,rfl,trivial⟩⟩;rw[f,ak];rfl
 ·have q:k=a.length:=by have:=av b;omega
  subst q;rw[bf];refine U ?_;refine De nY NY (rk a).length rfl rfl Zo Zo rfl rfl rfl rfl rfl (λg=>?_);refine U ?_;refine mP (λr σ L'=>∃k:Nat,k<=a.length/\r=a.length-k/\L'=k4 g 68 ((rk (a.take k)++List.replicate ((rk a).length-(rk (a.take k)).length) NY).flatMap nY)::fz H::L/\
   ml σ [(0,.slice B a.length d),(3,nN (rk (a.take k)).length),(6,.slice (some ⟨g,0,none⟩) (rk a).length (rk a).length),(22,.slice B a.length d),(23,nN a.length),(24,nN k)]) a.length
   _ (s1 _) ⟨0,by omega,by omega,by simp[rk],⟨rfl,rfl,rfl,rfl,rfl,rfl,trivial⟩⟩ ?_
  clear b n i t;rintro r σ _ ⟨k,C,rfl,rfl,i⟩;obtain⟨t,rfl⟩:=i.open;have n:=GG a k;refine U ?_;refine mE rfl (λb=>?_) (λb=>?_)
  ·have p:k<a.length:=by have:=am b;omega
   obtain⟨s,j⟩:∃e,a[k]? =some e:=⟨_,ad p⟩;have f:=NX a k s j;have m:=GG a (k+1);have G:=m;rw[f,ak] at m;have u:∀l:List nk,(l.flatMap nY).length=l.length*2:=tF (λ_=>rfl);refine U ?_;refine Io rfl rfl n rfl rfl (λo x y=>?_);refine U ?_;refine Ip (news:=s.l) rfl rfl (nS Zn (z s (ar j)) (le_refl _)) Zo ?_ oe.oL rfl (λ_=>trivial) rfl rfl ?_
   ·(rw[u,ak,bS];rcases eM (rk (a.take k)).length (rk a).length with h|h);·rw[x h];omega
    ·rw[y Zo];omega
   refine U ?_;refine⟨a.length-(k+1),_,by omega,s1 _,k+1,by omega,rfl,?_,⟨rfl,?_,rfl,rfl,rfl,rfl,trivial⟩⟩;·rw[Ms u _ _ _ _ _ Zo (λh=>x Zo) (λh=>y Zo),f,ak,kC]
   ·rw[f,ak];rfl
  ·have q:k=a.length:=by have:=av b;omega
   subst q;refine U ?_;refine kS ?_;rw[bf,dF,j8,aP];exact lj results165 Zt (L':=li 68 2 nY (some ⟨g,0,none⟩) (rk a).length (rk a)::fz H::L) (λw D=>D.In rfl (by unfold maxLen;omega) oe.oL) ⟨[_],rfl,_,_,rfl,rfl⟩
section
variable{P:Program}{n:Sz}{W:World}{q:Md}{Q:Exit->St->List kM->Prop}{σ:St}{L:List kM}{Z:Array Oper}{rest:List Oper}
 {dst:Option Nat} {ty:TypeId} {pos:String} {lf:Array Edge} {gd:Option (Nat×Bool)}
theorem Cl{f:Operand}{l:List Operand}{i:Array TypeId}{k:Nat}{fst cap:List Value}{R:List kM->Value->Prop}{es b:List kM}(j:wO L es b)(r:∀c,(∀e∈es,c.kn e.p)->(∀H,fz H∈es->H.le c)->Mk P k (fst++l.map (ev σ)++cap).toArray c R) (h:∀a v,R a v->SL P n W q Z Q rest (l6 σ dst v) (a++L))(s:q.pb=true:=by rfl)
 (hf:ev σ f=.func (.func k) fst.toArray cap.toArray:=by rfl) (t:lP Z σ ⟨dst,.call {callee:=.value f,args:=l.toArray,argTypes:=i},ty,pos,lf,gd⟩=true:=by rfl) (u:l8 n dst=true:=by rfl):
 SL P n W q Z Q (⟨dst,.call {callee:=.value f,args:=l.toArray,argTypes:=i},ty,pos,lf,gd⟩::rest) σ L:=by
 unfold wO at j;subst j;have m:=r (YtkbifmngmocjnaaGreatDoor.tf es) (λe x=>CZ x) (λH y=>by have:=EH y;rwa [tG] at this) W b;rw[tG] at m;have o:m3 P W k (fst++l.map (ev σ)++cap).toArray (es++b) (λv d=>∃a,d=a++(es++b)/\R a v):=(m.mL λw g=>g.tf es).conv λv d ⟨a,z,A⟩=>by refine⟨a++(es++b),λw g=>?_,a,rfl,A⟩;subst z;have B:=(g.ny (rT a b _)).F5 es;exact B.ny (by rw[<-aV,<-aV];exact List.perm_append_comm.append_right _)
 refine AT s rfl t u (BL hf o.BO) o ?_;rintro v d ⟨a,rfl,C⟩;exact⟨.inr (.of (gG a _)),h a v C⟩
end
def GH(H:kM)(v:Value)(q:xp):Prop:=∃ve,v=.agg #[ve,.bool q.2]/\Sl 2 nY H ve q.1
theorem xa(a:Aw):rk [a]=a.l:=by simp[rk]
theorem NZ(a b:Aw):rk [a,b]=a.l++b.l:=by simp[rk]
theorem N2(a b c:Aw):rk [a,b,c]=a.l++b.l++c.l:=by simp[rk]
theorem VU(H:kM)(g:Nat)(A:Option Addr)(n c:Nat)(b:Value)(a:n<=1000000)(d:H.kn (nX g [.slice A n c,b])):Rf prog 166 #[.pointer (some ⟨g,0,none⟩)] H (nN (8-n)):=λW L=>by refine enter func166 ?_;refine U ?_;refine kS ?_;refine lj results166 Zt (L':=fz H::L) lv ⟨?_,rfl⟩;show Value.int .i64 (max ((8:Int)-(n:Int)) 0)=_;congr 1;omega
theorem VV(H:kM)(v p:Value)(q:xp)(l:List nk)(y:GH H v q)(z:Sl 2 nY H p l)(C:q.1.length<=100000)(K:l.length<=1000000000):Fn prog 92 #[v,p] H (λe r=>GH e r (rJ q l)):=λW L=>by
 obtain⟨_,rfl,A,c,rfl,D,j⟩:=y;obtain⟨B,d,rfl,M,k⟩:=z;obtain⟨a,r9⟩:=q;simp only at C j D;refine enter func92 ?_;refine U ?_;intro E;refine U ?_;intro N;refine U ?_;cases r9 with
 |true=>
  refine U ?_;intro F;refine U ?_;refine tI (hf:=f1 (f1 f0)) o0 ?_;intro n m o;refine ov (Ax n (some ⟨F,0,none⟩) 1 [⟨A,c,a⟩] Zs (by rw[xa];show a.length<=1000000;omega) (uf o rfl) (λs k=>by
   have:s=⟨A,c,a⟩:=by simpa using k
   subst this;exact j.up m)) ?_
  rintro _ _ ⟨f,g,rfl,rfl⟩;rw[xa];simp only[aD];refine U ?_;refine kS ?_;have hp:rJ (a,true) l=(a,true):=by simp[rJ]
  rw[hp];exact lX (c1 (c1 (c1 c0))) results92 (.agg (cs:=[.slice f a.length g,.bool true]) inferInstance rfl lW rfl) (λe hl b=>⟨_,rfl,b.sl m0⟩)
 |false=>
  refine U ?_;refine sm (k1 (k1 k0)) (λe b t=>VU e E A a.length c (.bool false) Zo (pj (b _ (m1 m0)))) ?_;refine U ?_;by_cases u:8-a.length<l.length
  ·rw[show decide (((8-a.length:Nat):Int)<(l.length:Int))=true from Zq];refine U ?_;intro G;refine U ?_;have w:(l.take (8-a.length)).length=8-a.length:=by rw[aC];omega
   refine nq [0,1,2,3,4,5,6,7,8,9,10] Zk Zk Zk Zk Zk (λ_ _ _ h=>h) ?_;refine U ?_;refine EO (h:=8-a.length) rfl rfl rfl Zo rfl rfl ?_;refine U ?_;intro I;refine U ?_;refine Cl (k1 (k1 (k1 (k1 (k1 k0))))) (λe b t=>Ax e (some ⟨I,0,none⟩) 3 [⟨A,c,a⟩,⟨B,8-a.length,l.take (8-a.length)⟩,⟨some ⟨G,0,none⟩,1,[⟨9,[]⟩]⟩] Zs (by rw[N2];simp only[ak,w];show a.length+(8-a.length)+1<=1000000;omega) (uf (pj (b _ m0)) (by simp[zJ,w])) (λs i=>by
    (simp only[aJ,cQ,eG] at i;have x:=t H Zn;rcases i with rfl|rfl|rfl);·exact j.up x
    ·exact(Sl.take k _).up x
    ·exact uf (pj (b _ (m1 m0))) rfl)) ?_
   rintro _ _ ⟨f,g,rfl,rfl⟩;rw[N2];simp only[aD];refine U ?_;refine kS ?_;have hp:rJ (a,false) l=(a++l.take (8-a.length)++[⟨9,[]⟩],true):=by simp only[rJ];rw[ai Zd,aj u]
   rw[hp];exact lX (c1 (c1 (c1 (c1 (c1 c0))))) results92 (.agg (cs:=[.slice f (a++l.take (8-a.length)++[(⟨9,[]⟩:nk)]).length g,.bool true]) inferInstance rfl lW rfl) (λe hl b=>⟨_,rfl,b.sl m0⟩)
  ·rw[show decide (((8-a.length:Nat):Int)<(l.length:Int))=false from Zq];refine U ?_;intro J;refine U ?_;refine tI (hf:=f1 (f1 f0)) o0 ?_;intro n m o;refine ov (Ax n (some ⟨J,0,none⟩) 2 [⟨A,c,a⟩,⟨B,d,l⟩] Zs (by rw[NZ,ak];show a.length+l.length<=1000000;omega) (uf o rfl) (λs i=>by
    (simp only[aJ,cQ,eG] at i;rcases i with rfl|rfl);·exact j.up m
    ·exact k.up m)) ?_
   rintro _ _ ⟨f,g,rfl,rfl⟩;rw[NZ];simp only[aD];refine U ?_;refine kS ?_;have hp:rJ (a,false) l=(a++l,false):=by simp only[rJ];rw[ai Zd,ai u]
   rw[hp];exact lX (c1 (c1 (c1 c0))) results92 (.agg (cs:=[.slice f (a++l).length g,.bool false]) inferInstance rfl lW rfl) (λe hl b=>⟨_,rfl,b.sl m0⟩)
def Bu(l:List nk)(n:Int):Nat:=min n.toNat l.length
theorem VW(H:kM)(v:Value)(q:xp)(n:Int)(B:GH H v q)(C:q.1.length<=100000)(E:-9223372036854775808<=n/\n<=9223372036854775807):Fn prog 159 #[v,nI n] H (λd r=>∃v' w,r=.tuple #[v',w]/\GH d v' (q.1.drop (Bu q.1 n),q.2)/\Sl 2 nY d w (q.1.take (Bu q.1 n))):=λW L=>by
 obtain⟨_,rfl,A,c,rfl,x,o⟩:=B;obtain⟨a,r9⟩:=q;simp only at C o x;refine enter func159 ?_;refine U ?_;intro F;refine U ?_;intro G;refine U ?_;have D:Bu a n<=a.length:=jt _ _;have b:min (max n 0) (a.length:Int)=((Bu a n:Nat):Int):=by unfold Bu;omega
 generalize Bu a n=k at b D⊢;rw[b];have p:(a.drop k).length=a.length-k:=bi;have t:(a.take k).length=k:=by rw[aC];omega
 have oC:=Sl.drop o x.1 k;have u:=Sl.take o k;refine qN [] (lC.Z [0,1,2,3,6,7,9,10,11,12,13] (.o8 (lC.Z [4] (.o8 (lC.Z [5,8,14,15,16,17] .mZ) (lC.Z [14,5,8,15,16,17] .mZ))) (lC.Z [14,4,5,8,15,16,17] .mZ))) Zk Zk Zk Zk (λ_ _ _ h=>h) (.of Zu) ?_;refine mM _ _ _ _ Zk ?_;refine U ?_;refine vX (l:=k) rfl rfl Zo rfl rfl ?_;refine U ?_;refine EO (h:=k) rfl rfl rfl Zo rfl rfl ?_;refine U ?_;refine ta ?_ ?_
 ·refine mM _ _ _ _ Zk ?_;refine U ?_;intro i;refine U ?_;refine ta ?_ ?_;·refine mM _ _ _ _ Zk ?_;refine U ?_;refine Cl (k1 (k1 (k1 (k1 k0)))) (λd b e=>Ax d (some ⟨i,0,none⟩) 1 [⟨qd A c k 2,c-k,a.drop k⟩] Zs (by rw[xa];show(a.drop k).length<=1000000;omega) (uf (pj (b (k4 i 51 [.slice (qd A c k 2) (a.length-k) (c-k)]) Zn)) (by simp[zJ,p])) (λs f=>by(have:s=⟨qd A c k 2,c-k,a.drop k⟩:=by simpa using f);subst this;exact oC.up (e H Zn))) ?_;rintro _ _ ⟨j,m,rfl,rfl⟩;rw[xa];simp only[aD];refine U ?_;intro g;refine U ?_;refine Cl (k1 (k1 (k1 (k1 (k1 (k1 k0)))))) (λd b e=>Ax d (some ⟨g,0,none⟩) 1 [⟨A,k,a.take k⟩] Zs (by rw[xa];show(a.take k).length<=1000000;omega) (uf (pj (b (k4 g 51 [.slice A k k]) Zn)) (by simp[zJ,t])) (λs f=>by(have:s=⟨A,k,a.take k⟩:=by simpa using f);subst this;exact u.up (e H Zn))) ?_;rintro _ _ ⟨y,z,rfl,rfl⟩;rw[xa];simp only[aD];refine U ?_;refine kS ?_;exact m7 (c1 (c1 (c1 (c1 (c1 (c1 c0)))))) results159 (.agg (cs:=[.slice j (a.drop k).length m,.bool r9]) inferInstance rfl lW rfl) Zt (λd hl b=>⟨_,_,rfl,⟨_,rfl,b.sl Zn⟩,b.sl Zn⟩)
  ·refine mM _ _ _ _ Zk ?_;refine U ?_;intro g;refine U ?_;refine Cl (k1 (k1 (k1 (k1 (k1 k0))))) (λd b e=>Ax d (some ⟨i,0,none⟩) 1 [⟨qd A c k 2,c-k,a.drop k⟩] Zs (by rw[xa];show(a.drop k).length<=1000000;omega) (uf (pj (b (k4 i 51 [.slice (qd A c k 2) (a.length-k) (c-k)]) Zn)) (by simp[zJ,p])) (λs f=>by(have:s=⟨qd A c k 2,c-k,a.drop k⟩:=by simpa using f);subst this;exact oC.up (e H Zn))) ?_;rintro _ _ ⟨j,m,rfl,rfl⟩;rw[xa];simp only[aD];refine U ?_;refine Cl (k1 (k1 (k1 (k1 (k1 (k1 k0)))))) (λd b e=>Ax d (some ⟨g,0,none⟩) 1 [⟨A,k,a.take k⟩] Zs (by rw[xa];show(a.take k).length<=1000000;omega) (uf (pj (b (k4 g 51 [.slice A k k]) Zn)) (by simp[zJ,t])) (λs f=>by(have:s=⟨A,k,a.take k⟩:=by simpa using f);subst this;exact u.up (e H Zn))) ?_;rintro _ _ ⟨y,z,rfl,rfl⟩;rw[xa];simp only[aD];refine U ?_;refine kS ?_;exact m7 (c1 (c1 (c1 (c1 (c1 (c1 c0)))))) results159 (.agg (cs:=[.slice j (a.drop k).length m,.bool r9]) inferInstance rfl lW rfl) Zt (λd hl b=>⟨_,_,rfl,⟨_,rfl,b.sl Zn⟩,b.sl Zn⟩)
 ·refine mM _ _ _ _ Zk ?_;refine U ?_;intro g;refine U ?_;intro i;refine U ?_;refine Cl (k1 (k1 (k1 (k1 (k1 k0))))) (λd b e=>Ax d (some ⟨i,0,none⟩) 1 [⟨qd A c k 2,c-k,a.drop k⟩] Zs (by rw[xa];show(a.drop k).length<=1000000;omega) (uf (pj (b (k4 i 51 [.slice (qd A c k 2) (a.length-k) (c-k)]) Zn)) (by simp[zJ,p])) (λs f=>by
   have:s=⟨qd A c k 2,c-k,a.drop k⟩:=by simpa using f
   subst this;exact oC.up (e H Zn))) ?_
  rintro _ _ ⟨j,m,rfl,rfl⟩;rw[xa];simp only[aD];refine U ?_;refine Cl (k1 (k1 (k1 (k1 (k1 (k1 k0)))))) (λd b e=>Ax d (some ⟨g,0,none⟩) 1 [⟨A,k,a.take k⟩] Zs (by rw[xa];show(a.take k).length<=1000000;omega) (uf (pj (b (k4 g 51 [.slice A k k]) Zn)) (by simp[zJ,t])) (λs f=>by
   have:s=⟨A,k,a.take k⟩:=by simpa using f
   subst this;exact u.up (e H Zn))) ?_
  rintro _ _ ⟨y,z,rfl,rfl⟩;rw[xa];simp only[aD];refine U ?_;refine kS ?_;exact m7 (c1 (c1 (c1 (c1 (c1 (c1 c0)))))) results159 (.agg (cs:=[.slice j (a.drop k).length m,.bool r9]) inferInstance rfl lW rfl) Zt (λd hl b=>⟨_,_,rfl,⟨_,rfl,b.sl Zn⟩,b.sl Zn⟩)
def qY(t:lr)(a b ve:Value):List Value:=[nI t.call.kind,sv t.call.path,sv t.call.to,sv t.call.data,nI t.call.n,a,nI t.pos,.bool t.done,.bool t.mS,nI t.mV,nI t.IB,nI t.mark,nI t.mK,nI t.lM.err,sv t.lM.data,b,nI t.lM.n,ve]
def ui(H:kM)(cs:List Value)(t:lr):Prop:=∃a b ve,cs=qY t a b ve/\Sl 1 oY H a t.lA/\Sl 1 ni H b t.lM.ll/\Sl 2 nY H ve t.lM.l9
theorem ui.up{H d:kM}{cs:List Value}{t:lr}(h:ui H cs t)(hl:H.le d):ui d cs t:=by obtain⟨a,b,c,e,f,g,i⟩:=h;exact⟨a,b,c,e,f.up hl,g.up hl,i.up hl⟩
def VX(t:lr)(es:List kM)(v:Value):Prop:=∃A c B d E e,es=[li 68 2 nY E e t.lM.l9,li 9 1 ni B d t.lM.ll,li 3 1 oY A c t.lA]/\
 v=.agg (qY t (.slice A t.lA.length c) (.slice B t.lM.ll.length d) (.slice E t.lM.l9.length e)).toArray
theorem Dt(H:kM)(cs:List Value)(t:lr)(j:ui H cs t)(n:t.lA.length<=1000000)(o:t.lM.ll.length<=1000000)(p:t.lM.l9.length<=1000000):Mk prog 256 #[.agg cs.toArray] H (VX t):=λW L=>by obtain⟨_,_,_,rfl,⟨A,c,rfl,q,k⟩,⟨B,d,rfl,r,l⟩,E,e,rfl,s,m⟩:=j;refine enter func256 ?_;refine U ?_;intro u;refine U ?_;intro v;refine U ?_;refine ov (T0 oY H A c t.lA Zo k) ?_;rintro _ _ ⟨a,b,rfl,rfl⟩;simp only[aD];refine U ?_;refine ov (Gu ni H B d t.lM.ll Zo l) ?_;rintro _ _ ⟨f,g,rfl,rfl⟩;simp only[aD];refine U ?_;refine ov (MU nY H E e t.lM.l9 Zo m) ?_;rintro _ _ ⟨h,i,rfl,rfl⟩;simp only[aD];refine U ?_;refine kS ?_;exact lj results256 (.agg (cs:=qY t (.slice a t.lA.length b) (.slice f t.lM.ll.length g) (.slice h t.lM.l9.length i)) inferInstance rfl lW rfl) (L':=li 68 2 nY h i t.lM.l9::li 9 1 ni f g t.lM.ll::li 3 1 oY a b t.lA::fz H::L) lv ⟨[_,_,_],rfl,a,b,f,g,h,i,rfl,rfl⟩
def N3(t:lr)(H:kM)(r:Value):Prop:=∃cs,r=.agg cs.toArray/\ui H cs t
theorem VY(H:kM)(cs:List Value)(t:lr)(a:ui H cs t)(f:t.lA.length<=1000000)(g:t.lM.ll.length<=1000000)(h:t.lM.l9.length<=1000000):Fn prog 217 #[.agg cs.toArray] H (N3 (pD t)):=λW L=>by have i:=a;obtain⟨_,_,_,rfl,⟨A,c,rfl,o,p⟩,⟨B,d,rfl,q,r⟩,E,e,rfl,s,u⟩:=a;refine enter func217 ?_;refine U ?_;intro v;refine U ?_;intro w;refine U ?_;refine ov (Dt H _ t i f g h) ?_;rintro _ _ ⟨x,y,j,k,l,m,rfl,rfl⟩;simp only[bQ,aS];refine U ?_;refine kS ?_;exact lX (c1 (c1 (c1 (c1 (c1 c0))))) results217 (.agg (cs:=qY (pD t) (.slice none 0 0) (.slice j t.lM.ll.length k) (.slice l t.lM.l9.length m)) inferInstance rfl lW rfl) (λn hl b=>⟨_,rfl,_,_,_,rfl,Sl.nil 1 oY n,b.sl Zn,b.sl Zn⟩)
theorem VZ(H:kM)(g:Nat)(u:Int×Int)(a:H.kn (nX g [nI u.1,nI u.2]))(x:Int):Rf prog 259 #[nI x,.pointer (some ⟨g,0,none⟩)] H (.bool (x==u.2)):=λW L=>by refine enter func259 ?_;refine U ?_;refine kS ?_;exact lj results259 Zt lv ⟨rfl,rfl⟩
instance:pH prog 245 [] []:=⟨⟨_,rfl,λw=>by simp⟩,inferInstance⟩
def V0(c:mo)(w:Top.Way)(H:kM)(r:Value):Prop:=match w with
 |.U ns=>∃v,r=.iface 249 (.agg #[v])/\Sl 1 ni H v ns
 |.pT=>r=.iface 251 (.agg (qL c).toArray)
 |.plain=>r=.iface 245 (.agg #[])
theorem Jr(H:kM)(c:mo)(hp:c.path.length<=1000000000):Fn prog 69 #[.agg (qL c).toArray] H (V0 c (Top.nf c)):=λW L=>by
 obtain⟨kind,path,to,data,n⟩:=c;simp only at hp;by_cases h:kind=4
 ·subst h;by_cases l:n=0
  ·subst l;refine enter func69 ?_;refine U ?_;intro i;refine U ?_;refine l4 (hp:=f1 f0) (yR H path hp) ?_;rintro q _ r ⟨v',rfl,B,d,rfl,b,a⟩;cases e:oy path with
   |none=>rw[e] at b a;rw[show nf ⟨4,path,to,data,0⟩=.U [] from by simp[nf,e]];simp only[cN,aM,bH,bI];refine U ?_;refine sD rfl rfl rfl ?_;refine U ?_;refine kS ?_;exact lX (c1 c0) results69 Zt (λf hl g=>⟨_,rfl,Sl.nil 1 ni f⟩)
   |some ns=>
    (rw[e] at b a;simp only[dR,cc,aN] at b a⊢;rw[show nf ⟨4,path,to,data,0⟩=.U (ns.dropLast) from by simp[nf,e]];refine U ?_;have o:ns.dropLast=ns.take (ns.length-1):=ed;have j:(ns.take (ns.length-1)).length=ns.length-1:=by rw[aC];omega);by_cases p:ns.length=0;·have:ns=[]:=bN p;subst this;rw[show decide ((0:Int)<((([]:List kV).length:Nat):Int))=false from rfl];refine U ?_;refine sD rfl rfl rfl ?_;refine U ?_;refine kS ?_;exact lX (c1 c0) results69 Zt (λf hl g=>⟨_,rfl,_,_,rfl,b,a.up hl⟩)
    ·rw[show decide ((0:Int)<((ns.length:Nat):Int))=true from Zq];refine U ?_;rw[show(ns.length:Int)-1=((ns.length-1:Nat):Int) from by omega];refine rW (h:=ns.length-1) rfl rfl Zo rfl rfl ?_;refine U ?_;refine sD rfl rfl rfl ?_;refine U ?_;refine kS ?_;rw[o];exact lX (c1 c0) results69 Zt (λf hl g=>⟨_,rfl,B,d,by rw[j]<;>rfl,by rw[j];omega,(Sl.take a _).up hl⟩)
  ·rw[show nf ⟨4,path,to,data,n⟩=.plain from by simp[nf,l]];refine enter func69 ?_;refine U ?_;intro i;refine U ?_;rw[show(n != 0)=true from by simpa using l];refine U ?_;refine sD rfl rfl rfl ?_;refine U ?_;refine kS ?_;exact lX (c1 c0) results69 Zt (λf hl g=>rfl)
 rename _=>s
 by_cases h:kind=7
 ·subst h;by_cases l:n=0
  ·subst l;refine enter func69 ?_;refine U ?_;intro i;refine U ?_;refine l4 (hp:=f1 f0) (yR H path hp) ?_;rintro q _ r ⟨v',rfl,B,d,rfl,b,a⟩;cases e:oy path with
   |none=>rw[e] at b a;rw[show nf ⟨7,path,to,data,0⟩=.U [] from by simp[nf,e]];simp only[cN,aM,bH,bI];refine U ?_;refine sD rfl rfl rfl ?_;refine U ?_;refine kS ?_;exact lX (c1 c0) results69 Zt (λf hl g=>⟨_,rfl,Sl.nil 1 ni f⟩)
   |some ns=>rw[e] at b a;simp only[dR,cc,aN] at b a⊢;rw[show nf ⟨7,path,to,data,0⟩=.U (ns) from by simp[nf,e]];refine U ?_;refine sD rfl rfl rfl ?_;refine U ?_;refine kS ?_;exact lX (c1 c0) results69 Zt (λf hl g=>⟨_,rfl,_,_,rfl,b,a.up hl⟩)
  ·rw[show nf ⟨7,path,to,data,n⟩=.plain from by simp[nf,l]];refine enter func69 ?_;refine U ?_;intro i;refine U ?_;rw[show(n != 0)=true from by simpa using l];refine U ?_;refine sD rfl rfl rfl ?_;refine U ?_;refine kS ?_;exact lX (c1 c0) results69 Zt (λf hl g=>rfl)
 rename _=>t
 by_cases h:kind=1
 ·subst h;refine enter func69 ?_;refine U ?_;intro i;refine U ?_;refine l4 (hp:=f1 f0) (yR H path hp) ?_;rintro q _ r ⟨v',rfl,B,d,rfl,b,a⟩;cases e:oy path with
  |none=>rw[e] at b a;rw[show nf ⟨1,path,to,data,n⟩=.U [] from by simp[nf,e]];simp only[cN,aM,bH,bI];refine U ?_;refine sD rfl rfl rfl ?_;refine U ?_;refine kS ?_;exact lX (c1 c0) results69 Zt (λf hl g=>⟨_,rfl,Sl.nil 1 ni f⟩)
  |some ns=>
   rw[e] at b a;simp only[dR,cc,aN] at b a⊢;rw[show nf ⟨1,path,to,data,n⟩=.U (ns.dropLast) from by simp[nf,e]];refine U ?_;have o:ns.dropLast=ns.take (ns.length-1):=ed;have j:(ns.take (ns.length-1)).length=ns.length-1:=by rw[aC];omega
   by_cases p:ns.length=0;·have:ns=[]:=bN p;subst this;rw[show decide ((0:Int)<((([]:List kV).length:Nat):Int))=false from rfl];refine U ?_;refine sD rfl rfl rfl ?_;refine U ?_;refine kS ?_;exact lX (c1 c0) results69 Zt (λf hl g=>⟨_,rfl,_,_,rfl,b,a.up hl⟩)
   ·rw[show decide ((0:Int)<((ns.length:Nat):Int))=true from Zq];refine U ?_;rw[show(ns.length:Int)-1=((ns.length-1:Nat):Int) from by omega];refine rW (h:=ns.length-1) rfl rfl Zo rfl rfl ?_;refine U ?_;refine sD rfl rfl rfl ?_;refine U ?_;refine kS ?_;rw[o];exact lX (c1 c0) results69 Zt (λf hl g=>⟨_,rfl,B,d,by rw[j]<;>rfl,by rw[j];omega,(Sl.take a _).up hl⟩)
 rename _=>u
 by_cases h:kind=2
 ·subst h;refine enter func69 ?_;refine U ?_;intro i;refine U ?_;refine l4 (hp:=f1 f0) (yR H path hp) ?_;rintro q _ r ⟨v',rfl,B,d,rfl,b,a⟩;cases e:oy path with
  |none=>rw[e] at b a;rw[show nf ⟨2,path,to,data,n⟩=.U [] from by simp[nf,e]];simp only[cN,aM,bH,bI];refine U ?_;refine sD rfl rfl rfl ?_;refine U ?_;refine kS ?_;exact lX (c1 c0) results69 Zt (λf hl g=>⟨_,rfl,Sl.nil 1 ni f⟩)
  |some ns=>
   rw[e] at b a;simp only[dR,cc,aN] at b a⊢;rw[show nf ⟨2,path,to,data,n⟩=.U (ns.dropLast) from by simp[nf,e]];refine U ?_;have o:ns.dropLast=ns.take (ns.length-1):=ed;have j:(ns.take (ns.length-1)).length=ns.length-1:=by rw[aC];omega
   by_cases p:ns.length=0;·have:ns=[]:=bN p;subst this;rw[show decide ((0:Int)<((([]:List kV).length:Nat):Int))=false from rfl];refine U ?_;refine sD rfl rfl rfl ?_;refine U ?_;refine kS ?_;exact lX (c1 c0) results69 Zt (λf hl g=>⟨_,rfl,_,_,rfl,b,a.up hl⟩)
   ·rw[show decide ((0:Int)<((ns.length:Nat):Int))=true from Zq];refine U ?_;rw[show(ns.length:Int)-1=((ns.length-1:Nat):Int) from by omega];refine rW (h:=ns.length-1) rfl rfl Zo rfl rfl ?_;refine U ?_;refine sD rfl rfl rfl ?_;refine U ?_;refine kS ?_;rw[o];exact lX (c1 c0) results69 Zt (λf hl g=>⟨_,rfl,B,d,by rw[j]<;>rfl,by rw[j];omega,(Sl.take a _).up hl⟩)
 rename _=>v
 by_cases h:kind=3
 ·subst h;refine enter func69 ?_;refine U ?_;intro i;refine U ?_;refine l4 (hp:=f1 f0) (yR H path hp) ?_;rintro q _ r ⟨v',rfl,B,d,rfl,b,a⟩;cases e:oy path with
  |none=>rw[e] at b a;rw[show nf ⟨3,path,to,data,n⟩=.U [] from by simp[nf,e]];simp only[cN,aM,bH,bI];refine U ?_;refine sD rfl rfl rfl ?_;refine U ?_;refine kS ?_;exact lX (c1 c0) results69 Zt (λf hl g=>⟨_,rfl,Sl.nil 1 ni f⟩)
  |some ns=>
   rw[e] at b a;simp only[dR,cc,aN] at b a⊢;rw[show nf ⟨3,path,to,data,n⟩=.U (ns.dropLast) from by simp[nf,e]];refine U ?_;have o:ns.dropLast=ns.take (ns.length-1):=ed;have j:(ns.take (ns.length-1)).length=ns.length-1:=by rw[aC];omega
   by_cases p:ns.length=0;·have:ns=[]:=bN p;subst this;rw[show decide ((0:Int)<((([]:List kV).length:Nat):Int))=false from rfl];refine U ?_;refine sD rfl rfl rfl ?_;refine U ?_;refine kS ?_;exact lX (c1 c0) results69 Zt (λf hl g=>⟨_,rfl,_,_,rfl,b,a.up hl⟩)
   ·rw[show decide ((0:Int)<((ns.length:Nat):Int))=true from Zq];refine U ?_;rw[show(ns.length:Int)-1=((ns.length-1:Nat):Int) from by omega];refine rW (h:=ns.length-1) rfl rfl Zo rfl rfl ?_;refine U ?_;refine sD rfl rfl rfl ?_;refine U ?_;refine kS ?_;rw[o];exact lX (c1 c0) results69 Zt (λf hl g=>⟨_,rfl,B,d,by rw[j]<;>rfl,by rw[j];omega,(Sl.take a _).up hl⟩)
 rename _=>w
 by_cases h:kind=10
 ·subst h;refine enter func69 ?_;refine U ?_;intro i;refine U ?_;refine l4 (hp:=f1 f0) (yR H path hp) ?_;rintro q _ r ⟨v',rfl,B,d,rfl,b,a⟩;cases e:oy path with
  |none=>rw[e] at b a;rw[show nf ⟨10,path,to,data,n⟩=.U [] from by simp[nf,e]];simp only[cN,aM,bH,bI];refine U ?_;refine sD rfl rfl rfl ?_;refine U ?_;refine kS ?_;exact lX (c1 c0) results69 Zt (λf hl g=>⟨_,rfl,Sl.nil 1 ni f⟩)
  |some ns=>rw[e] at b a;simp only[dR,cc,aN] at b a⊢;rw[show nf ⟨10,path,to,data,n⟩=.U (ns) from by simp[nf,e]];refine U ?_;refine sD rfl rfl rfl ?_;refine U ?_;refine kS ?_;exact lX (c1 c0) results69 Zt (λf hl g=>⟨_,rfl,_,_,rfl,b,a.up hl⟩)
 rename _=>x
 by_cases h:kind=5;·subst h;rw[show nf ⟨5,path,to,data,n⟩=.pT from by simp[nf]];refine enter func69 ?_;refine U ?_;intro i;refine U ?_;refine sD rfl rfl rfl ?_;refine U ?_;refine kS ?_;exact lX (c1 c0) results69 Zt (λf hl g=>rfl)
 rename _=>y
 by_cases h:kind=6;·subst h;rw[show nf ⟨6,path,to,data,n⟩=.pT from by simp[nf]];refine enter func69 ?_;refine U ?_;intro i;refine U ?_;refine sD rfl rfl rfl ?_;refine U ?_;refine kS ?_;exact lX (c1 c0) results69 Zt (λf hl g=>rfl)
 rename _=>z
 by_cases h:kind=13;·subst h;rw[show nf ⟨13,path,to,data,n⟩=.pT from by simp[nf]];refine enter func69 ?_;refine U ?_;intro i;refine U ?_;refine sD rfl rfl rfl ?_;refine U ?_;refine kS ?_;exact lX (c1 c0) results69 Zt (λf hl g=>rfl)
 rename _=>A
 rw[show nf ⟨kind,path,to,data,n⟩=.plain from by simp[nf, *]];refine enter func69 ?_;refine U ?_;intro i;refine U ?_;have k:∀m:Int,kind≠m->(kind==m)=false:=λm C=>by simpa using C
 rw[k 4 s];refine U ?_;rw[k 7 t];refine U ?_;rw[k 1 u];refine U ?_;rw[k 2 v];refine U ?_;rw[k 3 w];refine U ?_;rw[k 10 x];refine U ?_;rw[k 5 y];refine U ?_;rw[k 6 z];refine U ?_;rw[k 13 A];refine U ?_;refine sD rfl rfl rfl ?_;refine U ?_;refine kS ?_;exact lX (c1 c0) results69 Zt (λf hl g=>rfl)
theorem V1(H:kM)(c:mo)(hp:c.path.length<=1000000000):Fn prog 257 #[.agg (qL c).toArray] H (λ_ r=>r=.bool (qi c)):=λW L=>by
 refine enter func257 ?_;refine U ?_;intro g;refine U ?_;refine l4 (hp:=f1 f0) (Jr H c hp) ?_;rintro h r i a;unfold qi;generalize Top.nf c=f at*;cases f with
 |U ns=>obtain⟨v,rfl,B,d,rfl,j,k⟩:=a;refine U ?_;refine II rfl rfl rfl ?_;refine U ?_;intro e;refine U ?_;refine kS ?_;exact lX (c1 (c1 c0)) results257 Zt (λ_ _ _=>rfl)
 |pT=>have b:r=.iface 251 (.agg (qL c).toArray):=a;subst b;refine U ?_;refine EN (t2:=251) (z:=.agg #[.slice none 0 0]) rfl Zd (λw=>by rfl) rfl rfl ?_;refine U ?_;intro e;refine U ?_;refine kS ?_;exact lX (c1 (c1 c0)) results257 Zt (λ_ _ _=>rfl)
 |plain=>have b:r=.iface 245 (.agg #[]):=a;subst b;refine U ?_;refine EN (t2:=245) (z:=.agg #[.slice none 0 0]) rfl Zd (λw=>by rfl) rfl rfl ?_;refine U ?_;intro e;refine U ?_;refine kS ?_;exact lX (c1 (c1 c0)) results257 Zt (λ_ _ _=>rfl)
theorem N4(c:mo)(hp:c.path.length<=1000000000):Pf prog 257 #[.agg (qL c).toArray] (.bool (qi c)):=Fn.pf λH=>V1 H c hp
structure yU(t:lr):Prop where
 lA:t.lA.length<=100000
 ll:t.lM.ll.length<=1000000
 l9:t.lM.l9.length<=1000000
 path:t.call.path.length<=1000000000
 pos:0<=t.pos/\t.pos<=1000000
theorem N5(H:kM)(cs:List Value)(t:lr)(u:Int×Int)(O:ui H cs t)(b:yU t):Fn prog 211 #[.agg cs.toArray,.agg #[nI u.1,nI u.2]] H (N3 (mO t u)):=λW L=>by
 have v:=O;have T:=b.lA;have hp:=b.pos;obtain⟨_,_,_,rfl,⟨A,c,rfl,V,X⟩,⟨B,d,rfl,Y,hq⟩,E,e,rfl,he,hs⟩:=O;obtain⟨k,lk⟩:=u;by_cases J:k=1
 ·subst J;refine enter func211 ?_;refine U ?_;intro D;refine U ?_;intro s;refine U ?_;intro F;refine U ?_;refine ov (Dt H _ t v Zo b.ll b.l9) ?_;rintro _ _ ⟨o,p,f,i,j,n,rfl,rfl⟩;simp only[bQ,aS];refine U ?_;by_cases hl:t.lA.length=1
  ·rw[show((t.lA.length:Int)==1)=true from Zq];refine U ?_;refine md (N4 t.call b.path W _) ?_;cases w:qi t.call with
   |true=>rw[show mO t (1,lk)={t with lA:=t.lA++[lk],pos:=t.pos+1} from by simp[mO,hl,w]];refine U ?_;intro y;refine U ?_;refine ap (l:=t.lA) (news:=[lk]) (oG (g:=y) (t:=3) (cs:=oY lk) Zn rfl) Zl (λz C=>?_);refine U ?_;refine kS ?_;exact lX (c1 (c1 (c1 (c1 (c1 (c1 (c1 c0))))))) results211 (.agg (cs:=qY ({t with lA:=t.lA++[lk],pos:=t.pos+1}) (.slice z (t.lA++[lk]).length C) (.slice f t.lM.ll.length i) (.slice j t.lM.l9.length n)) inferInstance rfl lW rfl) (λr hl a=>⟨_,rfl,_,_,_,rfl,a.sl Zn,a.sl Zn,a.sl Zn⟩)
   |false=>rw[show mO t (1,lk)={t with lA:=t.lA++[lk]} from by simp[mO,hl,w]];refine U ?_;intro y;refine U ?_;refine ap (l:=t.lA) (news:=[lk]) (oG (g:=y) (t:=3) (cs:=oY lk) Zn rfl) Zl (λz C=>?_);refine U ?_;refine kS ?_;exact lX (c1 (c1 (c1 (c1 (c1 (c1 (c1 c0))))))) results211 (.agg (cs:=qY ({t with lA:=t.lA++[lk]}) (.slice z (t.lA++[lk]).length C) (.slice f t.lM.ll.length i) (.slice j t.lM.l9.length n)) inferInstance rfl lW rfl) (λr hl a=>⟨_,rfl,_,_,_,rfl,a.sl Zn,a.sl Zn,a.sl Zn⟩)
  ·rw[show((t.lA.length:Int)==1)=false from Zq];rw[show mO t (1,lk)={t with lA:=t.lA++[lk]} from by simp[mO,hl]];refine U ?_;intro y;refine U ?_;refine ap (l:=t.lA) (news:=[lk]) (oG (g:=y) (t:=3) (cs:=oY lk) Zn rfl) Zl (λz C=>?_);refine U ?_;refine kS ?_;exact lX (c1 (c1 (c1 (c1 (c1 (c1 (c1 c0))))))) results211 (.agg (cs:=qY ({t with lA:=t.lA++[lk]}) (.slice z (t.lA++[lk]).length C) (.slice f t.lM.ll.length i) (.slice j t.lM.l9.length n)) inferInstance rfl lW rfl) (λr hl a=>⟨_,rfl,_,_,_,rfl,a.sl Zn,a.sl Zn,a.sl Zn⟩)
 by_cases K:k=2
 ·subst K;refine enter func211 ?_;refine U ?_;intro D;refine U ?_;intro s;refine U ?_;intro F;refine U ?_;refine ov (Dt H _ t v Zo b.ll b.l9) ?_;rintro _ _ ⟨o,p,f,i,j,n,rfl,rfl⟩;simp only[bQ,aS];refine U ?_;refine tI (hf:=f1 (f1 (f1 (f1 (f1 f0))))) (o1 (o1 (o1 (o1 o0)))) ?_;intro P kF R;refine NK (z1 (z1 z0)) (H:=P) (λW L=>Vn oY (λx=>x) (λ_=>rfl) P o p 259 [.pointer (some ⟨s,0,none⟩)] (λx=>x==lk) t.lA Zo 0 rfl (λr hl x _=>VZ r s (2,lk) (R.up hl) x) W L) ?_;have kG:(oT t.lA (λx=>x==lk)).length<=t.lA.length:=NG _;have G:mO t (2,lk)={t with lA:=oT t.lA (λx=>x==lk),pos:=if oT t.lA (λx=>x==lk)=[]/\t.done=false/\qi t.call=true then 0 else t.pos}:=by simp[mO,oT]
  generalize hh:oT t.lA (λx=>x==lk)=q at*;refine U ?_;by_cases hl:q=[]
  ·rw[show((q.length:Int)==0)=true from by rw[hl];rfl];refine U ?_;cases Q:t.done with
   |true=>rw[G,ai (by simp[Q])];refine U ?_;refine kS ?_;exact lX (c1 (c1 (c1 (c1 (c1 c0))))) results211 (.agg (cs:=qY ({t with lA:=q}) (.slice o (q).length p) (.slice f t.lM.ll.length i) (.slice j t.lM.l9.length n)) inferInstance rfl lW rfl) (λr hl a=>⟨_,rfl,_,_,_,rfl,a.sl Zn,a.sl Zn,a.sl Zn⟩)
   |false=>
    refine U ?_;refine md (N4 t.call b.path W _) ?_;cases w:qi t.call with
    |true=>rw[G,aj ⟨hl,Q,w⟩];refine U ?_;refine kS ?_;exact lX (c1 (c1 (c1 (c1 (c1 c0))))) results211 (.agg (cs:=qY ({t with lA:=q,pos:=0}) (.slice o (q).length p) (.slice f t.lM.ll.length i) (.slice j t.lM.l9.length n)) inferInstance rfl lW rfl) (λr hl a=>⟨_,rfl,_,_,_,rfl,a.sl Zn,a.sl Zn,a.sl Zn⟩)
    |false=>rw[G,ai (by simp[w])];refine U ?_;refine kS ?_;exact lX (c1 (c1 (c1 (c1 (c1 c0))))) results211 (.agg (cs:=qY ({t with lA:=q}) (.slice o (q).length p) (.slice f t.lM.ll.length i) (.slice j t.lM.l9.length n)) inferInstance rfl lW rfl) (λr hl a=>⟨_,rfl,_,_,_,rfl,a.sl Zn,a.sl Zn,a.sl Zn⟩)
  ·have kH:0<q.length:=cA.2 hl;rw[show((q.length:Int)==0)=false from Zq];rw[G,ai (λh=>hl h.1)];refine U ?_;refine kS ?_;exact lX (c1 (c1 (c1 (c1 (c1 c0))))) results211 (.agg (cs:=qY ({t with lA:=q}) (.slice o (q).length p) (.slice f t.lM.ll.length i) (.slice j t.lM.l9.length n)) inferInstance rfl lW rfl) (λr hl a=>⟨_,rfl,_,_,_,rfl,a.sl Zn,a.sl Zn,a.sl Zn⟩)
 by_cases M:k=3;·subst M;refine enter func211 ?_;refine U ?_;intro D;refine U ?_;intro s;refine U ?_;intro F;refine U ?_;refine ov (Dt H _ t v Zo b.ll b.l9) ?_;rintro _ _ ⟨o,p,f,i,j,n,rfl,rfl⟩;simp only[bQ,aS];refine U ?_;rw[show mO t (3,lk)={t with done:=true} from by simp[mO]];refine U ?_;refine kS ?_;exact lX (c1 (c1 (c1 (c1 (c1 (c1 c0)))))) results211 (.agg (cs:=qY ({t with done:=true}) (.slice o (t.lA).length p) (.slice f t.lM.ll.length i) (.slice j t.lM.l9.length n)) inferInstance rfl lW rfl) (λr hl a=>⟨_,rfl,_,_,_,rfl,a.sl Zn,a.sl Zn,a.sl Zn⟩)
 by_cases N:k=5;·subst N;refine enter func211 ?_;refine U ?_;intro D;refine U ?_;intro s;refine U ?_;intro F;refine U ?_;refine ov (Dt H _ t v Zo b.ll b.l9) ?_;rintro _ _ ⟨o,p,f,i,j,n,rfl,rfl⟩;simp only[bQ,aS];refine U ?_;rw[show mO t (5,lk)={t with mS:=true} from by simp[mO]];refine U ?_;refine kS ?_;exact lX (c1 (c1 (c1 (c1 (c1 (c1 c0)))))) results211 (.agg (cs:=qY ({t with mS:=true}) (.slice o (t.lA).length p) (.slice f t.lM.ll.length i) (.slice j t.lM.l9.length n)) inferInstance rfl lW rfl) (λr hl a=>⟨_,rfl,_,_,_,rfl,a.sl Zn,a.sl Zn,a.sl Zn⟩)
 refine enter func211 ?_;refine U ?_;intro D;refine U ?_;intro s;refine U ?_;intro F;refine U ?_;refine ov (Dt H _ t v Zo b.ll b.l9) ?_;rintro _ _ ⟨o,p,f,i,j,n,rfl,rfl⟩;simp only[bQ,aS];refine U ?_;have I:∀m:Int,k≠m->(k==m)=false:=λm S=>by simpa using S
 rw[I 1 J];refine U ?_;rw[I 2 K];refine U ?_;rw[I 3 M];refine U ?_;rw[I 5 N];rw[show mO t (k,lk)=t from by simp[mO,J,K,M,N]];refine U ?_;refine kS ?_;exact lX (c1 (c1 (c1 (c1 (c1 (c1 c0)))))) results211 (.agg (cs:=qY (t) (.slice o (t.lA).length p) (.slice f t.lM.ll.length i) (.slice j t.lM.l9.length n)) inferInstance rfl lW rfl) (λr hl a=>⟨_,rfl,_,_,_,rfl,a.sl Zn,a.sl Zn,a.sl Zn⟩)
theorem Cm{p:kV}{ns:List kV}(h:oy p=some ns):ns.length<=16:=by
 unfold oy at h;split at h;·cases h;exact aR _
 ·split at h
  ·split at h;·rename_i hf;cases h;unfold Bc at hf;rw[aF] at hf;exact am hf.1
   ·cases h
  ·cases h
theorem V2{c:mo}{ns:List kV}(h:Top.nf c=.U ns):ns.length<=16:=by
 unfold Top.nf at h;split at h;·cases h
 ·split at h
  ·split at h;·cases h;exact aR _
   ·rename_i a hp;have:=Cm hp;cases h;split;·exact this
    ·rw[iz];omega
  ·split at h<;>cases h
def N6(c:mo)(H:kM)(r:Value):Prop:=∃B l d,r=.tuple #[.slice B l d,.bool (qi c)]
theorem V3(H:kM)(c:mo)(hp:c.path.length<=1000000000):Fn prog 215 #[.agg (qL c).toArray] H (N6 c):=λW L=>by
 refine enter func215 ?_;refine U ?_;intro j;refine U ?_;refine l4 (hp:=f1 f0) (Jr H c hp) ?_;rintro f r k a;unfold N6 qi;have lL:∀ns,Top.nf c=.U ns->ns.length<=16:=λns h=>V2 h;generalize Top.nf c=g at*;cases g with
 |U ns=>have:=lL ns rfl;obtain⟨v,rfl,B,d,rfl,l,i⟩:=a;refine U ?_;refine II rfl rfl rfl ?_;refine U ?_;intro e;refine U ?_;refine ov (Gu ni f B d ns Zo i) ?_;rintro _ _ ⟨m,n,rfl,rfl⟩;simp only[aD];refine U ?_;refine kS ?_;exact m7 (c1 (c1 (c1 c0))) results215 Zt Zt (λ_ _ _=>⟨_,_,_,rfl⟩)
 |pT=>have b:r=.iface 251 (.agg (qL c).toArray):=a;subst b;refine U ?_;refine EN (t2:=251) (z:=.agg #[.slice none 0 0]) rfl Zd (λw=>by rfl) rfl rfl ?_;refine U ?_;intro e;refine U ?_;refine kS ?_;exact m7 (c1 (c1 c0)) results215 Zt Zt (λ_ _ _=>⟨_,_,_,rfl⟩)
 |plain=>have b:r=.iface 245 (.agg #[]):=a;subst b;refine U ?_;refine EN (t2:=245) (z:=.agg #[.slice none 0 0]) rfl Zd (λw=>by rfl) rfl rfl ?_;refine U ?_;intro e;refine U ?_;refine kS ?_;exact m7 (c1 (c1 c0)) results215 Zt Zt (λ_ _ _=>⟨_,_,_,rfl⟩)
theorem Js(n:Nat)(d:n<=1000000000):Pf prog 171 #[nN n] (.int .u8 ((sP n).toNat:Int)):=λW L=>by
 refine enter func171 ?_;refine U ?_;refine z6 (k:=.i64) (a:=(n:Int)) (b:=250) rfl rfl Zd rfl rfl ?_;rw[show((n:Nat):Int).tmod 250=((n%250:Nat):Int) from rfl];refine U ?_;have c:(sP n).toNat=n%250+1:=by unfold sP;rw[gP];omega
 refine xN (k:=.i64) (k2:=.u8) (a:=((n%250:Nat):Int)+1) (b:=((sP n).toNat:Int)) rfl rfl rfl (by rw[c];unfold IntKind.wrap;simp[IntKind.bits,IntKind.signed];omega) rfl rfl ?_;refine U ?_;refine kS ?_;exact lj results171 Zt lv ⟨rfl,rfl⟩
def rl(n:Nat):Nat:=(n+13)/14
def N7(g n i:Nat):Value:=.slice (some ⟨g,i*14,none⟩) (min (i*14+14) n-i*14) (min (i*14+14) n-i*14)
theorem V4(H:kM)(d j n c:Nat)(C:n<=c)(D:n<=100000000)(s:H.kn (nX d [.slice (some ⟨j,0,none⟩) n c]))(W:World):zx prog W 230 [.pointer (some ⟨d,0,none⟩)] H.p (λi:Nat=>[N7 j n i]) (·<+:List.range (rl n)) (·=List.range (rl n)):=by
 intro k K E a t u v w;refine enter func230 ?_;have x:∀pre X,K pre X->oq W (X++a) H.p:=λpre X h=>t pre X a h;refine U ?_;refine mP (λm σ L'=>∃(i:Nat) (X:List kM),m=rl n-i/\i<=rl n/\K (List.range i) X/\L'=X++a/\ml σ [(0,.func (.yield k) #[] #[]),(1,.pointer (some ⟨d,0,none⟩)),(3,nN (i*14))]) (rl n)
  _ (s1 _) ⟨0,v,by omega,by omega,w,rfl,rfl,rfl,rfl,trivial⟩ ?_
 rintro m σ _ ⟨i,X,rfl,F,f,rfl,y⟩;obtain⟨G,rfl⟩:=y.open;have k1:=(x _ _ f).kn s;refine U ?_;refine mE rfl (λg=>?_) (λg=>?_)
 ·have z:i*14<n:=by have:=am g;omega
  have o:i<rl n:=by unfold rl;omega
  have q:List.range i++[i]<+:List.range (rl n):=by rw[<-dz,show rl n=(i+1)+(rl n-(i+1)) from by omega,List.range_add];exact List.prefix_append _ _
  refine CO ?_;refine sX ?_;refine Es ?_;refine sX ?_;refine wM (λA L'=>L'=X++a/\ml A [(0,.func (.yield k) #[] #[]),(1,.pointer (some ⟨d,0,none⟩)),(3,nN (i*14)),(4,nN (min (i*14+14) n))]) ?_ ?_;·refine U ?_;exact⟨rfl,rfl,rfl,rfl,by rw[show nN (min (i*14+14) n)=.int .i64 (min (((i*14:Nat):Int)+14) (n:Int)) from by unfold nN;congr 1;omega]<;>rfl,trivial⟩
  rintro _ _ ⟨rfl,B⟩;obtain⟨I,rfl⟩:=B.open;refine sX (Gl ?_);refine rN rfl ?_;refine U ?_;refine rN rfl ?_;refine U ?_;refine rN rfl ?_;refine U ?_;refine rN rfl ?_;refine U ?_;refine rN rfl ?_;refine U ?_;refine rN rfl ?_;refine TW (l:=i*14) (h:=min (i*14+14) n) (m:=min (i*14+14) n) rfl rfl rfl rfl Zo (aA _) Zo rfl rfl ?_;rw[EB Zo,eL];refine U ?_;refine ER rfl (u _ i X a q f) rfl rfl rfl (λ_ _ h=>h) ?_;rintro b _ ⟨r,rfl,⟨rfl,e⟩|⟨rfl,e⟩⟩;·refine U ?_;rw[<-dz] at e;rw[show((i*14:Nat):Int)+14=(((i+1)*14:Nat):Int) from by omega];refine U ?_;exact⟨rl n-(i+1),_,by omega,s1 _,i+1,r,rfl,by omega,e,rfl,rfl,rfl,rfl,trivial⟩
  ·refine U ?_;refine kS ?_;exact AS results230 ⟨r,rfl,.inr ⟨_,q,e⟩⟩
 ·have z:¬i*14<n:=by have:=av g;omega
  have o:i=rl n:=by unfold rl at*;omega
  subst o;refine U ?_;exact xK results230 ⟨X,rfl,.inl ⟨_,rfl,f⟩⟩
theorem V5(H:kM)(A:Option Addr)(m c:Nat):Fn prog 170 #[.slice A m c] H (λb r=>∃a:Nat,r=.func (.func 230) #[] #[.pointer (some ⟨a,0,none⟩)]/\b.kn (nX a [.slice A m c])):=λW L=>by refine enter func170 ?_;refine U ?_;intro a;refine U ?_;refine kS ?_;exact lX (c1 c0) results170 Zt (λb hl d=>⟨a,rfl,pj (d.kn _ m0)⟩)
theorem N8(m:UInt8)(f:Nat)(s:kV):uM m (f+1) s=if 16<=s.length/\s.headD 0=m/\(s.drop 15).headD 0=m then((s.drop 1).take 14)::uM m f (s.drop 16) else[]:=rfl
theorem V6(H:kM)(g j:Nat)(s:kV)(mk:UInt8)(Y:s.length<=100000000)(B:H.kn (nX g [sv s]))(C:H.kn (nX j [.int .u8 (mk.toNat:Int)]))(W:World):zx prog W 310 [.pointer (some ⟨g,0,none⟩),.pointer (some ⟨j,0,none⟩)] H.p (λp:kV=>[sv p]) (·<+:uM mk (s.length/16+1) s) (·=uM mk (s.length/16+1) s):=by
 intro t K Kx f E F G I;refine enter func310 ?_;have u:∀pre X,K pre X->oq W (X++f) H.p:=λpre X h=>E pre X f h;generalize J:uM mk (s.length/16+1) s=M at*;refine U ?_;refine mP (λm σ L'=>∃(i:Nat) (D:List kV) (X:List kM),m=s.length/16+1-i/\i<=s.length/16/\M=D++uM mk (s.length/16-i+1) (s.drop (i*16))/\K D X/\L'=X++f/\ml σ [(0,.func (.yield t) #[] #[]),(1,.pointer (some ⟨g,0,none⟩)),(2,.pointer (some ⟨j,0,none⟩)),(4,nN (i*16))]) (s.length/16+1)
  _ (s1 _) ⟨0,[],G,by omega,by omega,by rw[<-J];rfl,I,rfl,rfl,rfl,rfl,rfl,trivial⟩ ?_
 rintro m σ _ ⟨i,D,X,rfl,hi,a,d,rfl,L⟩;obtain⟨kF,rfl⟩:=L.open;have k1:=(u _ _ d).kn B;have k2:=(u _ _ d).kn C;rw[N8] at a;refine U ?_;refine mE rfl (λo=>?_) (λo=>?_)
 ·have N:i*16+16<=s.length:=by have:=am o;omega
  have v:(s.drop (i*16)).length=s.length-i*16:=bi;obtain⟨b0,w⟩:∃b,s[i*16]? =some b:=⟨_,ad Zo⟩;obtain⟨c,x⟩:∃b,s[i*16+15]? =some b:=⟨_,ad Zo⟩;have O:(s.drop (i*16)).headD 0=b0:=by rw[ju,List.head?_drop,w];rfl
  have P:((s.drop (i*16)).drop 15).headD 0=c:=by rw[ju,List.head?_drop,dQ,x];rfl
  rw[O,P] at a;refine CO ?_;refine sX ?_;refine Es ?_;refine sX ?_;refine wM (λQ L'=>L'=X++f/\ml Q [(0,.func (.yield t) #[] #[]),(1,.pointer (some ⟨g,0,none⟩)),(2,.pointer (some ⟨j,0,none⟩)),(4,nN (i*16)),(5,sv ((s.drop (i*16)).take 16))]) ?_ ?_;·refine U ?_;rw[show((i*16:Nat):Int)+16=((i*16+16:Nat):Int) from by omega];refine LX (s:=s) (l:=i*16) (h:=i*16+16) rfl rfl rfl Zo Zo rfl rfl ?_;rw[show(s.take (i*16+16)).drop (i*16)=(s.drop (i*16)).take 16 from by rw[eE];congr 1;omega];refine U ?_;exact⟨rfl,rfl,rfl,rfl,rfl,rfl,trivial⟩
  rintro _ _ ⟨rfl,R⟩;obtain⟨kG,rfl⟩:=R.open;have S:((s.drop (i*16)).take 16)[0]? =some b0:=by rw[cx Zo,dQ];exact w
  have T:((s.drop (i*16)).take 16)[15]? =some c:=by rw[cx Zo,dQ];exact x
  have kH:((s.drop (i*16)).take 16).length=16:=by rw[aC,v];omega
  refine sX ?_;have y:¬(b0=mk/\c=mk)->D=M:=by intro V;rw[ai (λh=>V h.2),aP] at a;exact a.symm
  refine TP [(true,0),(true,1),(false,2),(true,3),(true,4),(true,5),(true,6),(false,7),(true,8),(true,9),(true,10),(true,11),(true,12),(true,13),(false,14),(true,15),(true,16)] Zk Zk Zk Zk (λ_ _ _ h=>h) ?_;refine x7 [0] _ Zk ?_;refine U ?_;refine Dj rfl (λ_ _=>rfl) (.inl ⟨rfl,MP rfl rfl S⟩) rfl ?_;refine E4 rfl rfl ?_;refine U ?_;refine x7 [3,4] _ Zk ?_;refine U ?_;by_cases k:b0=mk
  ·rw[show(((b0.toNat:Nat):Int) != ((mk.toNat:Nat):Int))=false from by rw[k];simp];refine x7 [5] _ Zk ?_;refine U ?_;refine Dj rfl (λ_ _=>rfl) (.inl ⟨rfl,MP rfl rfl T⟩) rfl ?_;refine E4 rfl rfl ?_;refine U ?_;refine x7 [8,9,10] _ Zk ?_;refine U ?_;by_cases n:c=mk
   ·(rw[show(((c.toNat:Nat):Int) != ((mk.toNat:Nat):Int))=false from by rw[n];simp];refine x7 [11,12] _ Zk ?_;refine U ?_;refine Dj rfl (λ_ _=>rfl) (.inl ⟨rfl,TQ (l:=1) (h:=15) rfl rfl rfl Zo Zo⟩) rfl ?_;rw[show(((s.drop (i*16)).take 16).take 15).drop 1=((s.drop (i*16)).drop 1).take 14 from by rw[dG,eE];rfl];rw[aj ⟨by rw[v];omega,k,n⟩] at a;generalize((s.drop (i*16)).drop 1).take 14=q at*;have z:D++[q]<+:M:=by rw[a];exact⟨uM mk (s.length/16-i) ((s.drop (i*16)).drop 16),by simp⟩);refine MO rfl (ER rfl (F D q X f z d) rfl rfl rfl (λ_ _ h=>h) ?_);rintro b _ ⟨A,rfl,⟨rfl,r⟩|⟨rfl,r⟩⟩;·refine q8 ?_;refine x7 [15,16] _ Zk ?_;refine U ?_;refine Gr ?_;refine U ?_;rw[show((i*16:Nat):Int)+16=(((i+1)*16:Nat):Int) from by omega];refine U ?_;exact⟨s.length/16+1-(i+1),_,by omega,s1 _,i+1,D++[q],A,rfl,by omega,by rw[a,show s.length/16-(i+1)+1=s.length/16-i from by omega,cI,show i*16+16=(i+1)*16 from by omega];simp,r,rfl,rfl,rfl,rfl,rfl,trivial⟩
    ·refine q8 ?_;refine x7 [15,16] _ Zk ?_;refine U ?_;refine Gr ?_;refine U ?_;refine kS ?_;exact AS results310 ⟨A,rfl,.inr ⟨_,z,r⟩⟩
   ·rw[show(((c.toNat:Nat):Int) != ((mk.toNat:Nat):Int))=true from by have:c.toNat≠mk.toNat:=λe=>n (iw.1 e);simp;omega];refine x7 [11,12] _ Zk ?_;refine U ?_;refine Dj rfl (λ_ _=>rfl) (.inr ⟨rfl,rfl⟩) rfl ?_;refine E4 rfl rfl ?_;refine U ?_;refine x7 [15,16] _ Zk ?_;refine U ?_;refine Gr ?_;refine U ?_;refine kS ?_;exact AS results310 ⟨X,rfl,.inl ⟨M,rfl,by rw[<-y (by exact λh=>n h.2)];exact d⟩⟩
  ·rw[show(((b0.toNat:Nat):Int) != ((mk.toNat:Nat):Int))=true from by have:b0.toNat≠mk.toNat:=λe=>k (iw.1 e);simp;omega];refine x7 [5] _ Zk ?_;refine U ?_;refine Dj rfl (λ_ _=>rfl) (.inr ⟨rfl,rfl⟩) rfl ?_;refine E4 rfl rfl ?_;refine U ?_;refine x7 [8,9,10,11,12] _ Zk ?_;refine U ?_;refine Dj rfl (λ_ _=>rfl) (.inr ⟨rfl,rfl⟩) rfl ?_;refine E4 rfl rfl ?_;refine U ?_;refine x7 [15,16] _ Zk ?_;refine U ?_;refine Gr ?_;refine U ?_;refine kS ?_;exact AS results310 ⟨X,rfl,.inl ⟨M,rfl,by rw[<-y (by exact λh=>k h.1)];exact d⟩⟩
 ·have N:¬i*16+16<=s.length:=by have:=av o;omega
  rw[ai (by rw[bi];omega),aP] at a;subst a;refine U ?_;exact xK results310 ⟨X,rfl,.inl ⟨_,rfl,d⟩⟩
theorem V7(H:kM)(s:kV)(mk:UInt8):Fn prog 299 #[sv s,.int .u8 (mk.toNat:Int)] H (λc r=>∃a b:Nat,r=.func (.func 310) #[] #[.pointer (some ⟨a,0,none⟩),.pointer (some ⟨b,0,none⟩)]/\c.kn (nX a [sv s])/\c.kn (nX b [.int .u8 (mk.toNat:Int)])):=λW L=>by refine enter func299 ?_;refine U ?_;intro a;refine U ?_;intro b;refine U ?_;refine kS ?_;exact lX (c1 (c1 c0)) results299 Zt (λc hl d=>⟨a,b,rfl,pj (d.kn _ (m1 m0)),pj (d.kn _ m0)⟩)
theorem Jt(mk:UInt8):∀(f:Nat) (s:kV),(uM mk f s).length<=f/\∀p∈uM mk f s,p.length<=14
 |0,s=>⟨aA _,by simp[uM]⟩
 |f+1,s=>by
  rw[N8];split
  ·obtain⟨b,a⟩:=Jt mk f (s.drop 16);refine⟨by simp;omega,λp hp=>?_⟩;rcases aJ.1 hp with rfl|hp;·rw[aC];omega
   ·exact a p hp
  ·exact⟨aR _,by simp⟩
theorem Fg{s:kV}{n:Nat}{r:kV}(h:pY s=some (n,r)):r.length<=s.length:=by
 have:∀(s:kV) (i m n:Nat) (r:kV),wc s i m=some (n,r)->r.length<=s.length:=by
  intro s;induction s with
  |nil=>intro i m n r h;cases h
  |cons d b a=>
   intro i m n r h;rw[wc] at h;split at h;·cases h
   ·split at h;·cases h;simp
    ·have:=a _ _ _ _ h;simp;omega
 exact this s 0 0 n r h
theorem Cn(len:Nat)(p:kV)(l:List kV)(b:kV)(a:Nat):sQ len (p::l) b a=
 if a=0 then match pY p with
  |none=>(b++p,0)
  |some (n,rest)=>if n>len then(b++p,0) else if(b++p).length>=p.length-rest.length+n then(b++p,p.length-rest.length+n) else sQ len l (b++p) (p.length-rest.length+n)
 else if(b++p).length>=a then(b++p,a) else sQ len l (b++p) a:=rfl
theorem N9(s:kV)(m:UInt8):Db s m=if(sQ s.length (uM m (s.length/16+1) s) [] 0).2=0\/(sQ s.length (uM m (s.length/16+1) s) [] 0).1.length<(sQ s.length (uM m (s.length/16+1) s) [] 0).2 then[] else(sQ s.length (uM m (s.length/16+1) s) [] 0).1:=rfl
def Ju(a d e:Nat)(s:kV)(H:kM)(b:kV)(f:Nat)(X:List kM):Prop:=∃A c,((A=none/\c=0)\/0<c)/\X=[k4 e 3 [nN f],k4 d 291 [.slice A b.length c],li 5 1 mI A c b,k4 a 9 [sv s],fz H]
theorem V8(H:kM)(s:kV)(mk:UInt8)(hs:s.length<=10000000):Rf prog 271 #[sv s,.int .u8 (mk.toNat:Int)] H (sv (Db s mk)):=λW L=>by
 have i:=N9 s mk;have J:=Jt mk (s.length/16+1) s;refine EU func271 ?_;refine rj (sR ?_);refine U ?_;intro j;refine U ?_;refine TS ?_;refine rj (sR ?_);refine U ?_;intro k;refine U ?_;refine rj (sR ?_);refine U ?_;intro l;refine U ?_;refine rj (sR ?_);refine U ?_;refine rj ?_;refine rj (sR ?_);refine U ?_;refine l4 (hp:=f1 (f1 (f1 f0))) (V7 H s mk) ?_;rintro m _ u ⟨V,Y,rfl,kF,kG⟩;refine U ?_;refine ES ?_;generalize hM:uM mk (s.length/16+1) s=M at*;refine uO.mL (L':=[k4 l 3 [nN 0],k4 k 291 [.slice none 0 0],li 5 1 mI none 0 [],k4 j 9 [sv s],fz m]++L) (λw C=>(C.oA 5 1 mI none).pick 3 [1,2,0] Zd) ?_;have kO:=J.1;have kH:=J.2;clear J;refine ET (L:=L) (by have:=V6 m V Y s mk Zo kF kG W;rw[hM] at this;exact this)
  (λD X=>∃b a,(∀rest,sQ s.length (D++rest) [] 0=sQ s.length rest b a)/\b.length<=14*D.length/\a<=14+s.length/\Ju j k l s m b a X)
  (λcd D X=>cd=.exit 0/\∃b a,(∀rest,sQ s.length (D++rest) [] 0=(b,a))/\b.length<=14*D.length/\a<=14+s.length/\Ju j k l s m b a X)
  (λD p kI X=>(∃b a,(∀rest,sQ s.length (D++rest) [] 0=sQ s.length rest b a)/\b.length<=14*D.length/\a<=14+s.length/\Ju j k l s m b a X)/\
   ml kI [(2,.pointer (some ⟨j,0,none⟩)),(5,.pointer (some ⟨k,0,none⟩)),(6,.pointer (some ⟨l,0,none⟩)),(7,sv p)])
  [k4 l 3 [nN 0],k4 k 291 [.slice none 0 0],li 5 1 mI none 0 [],k4 j 9 [sv s],fz m] ⟨[],0,λ_=>rfl,aR _,aR _,none,0,.inl ⟨rfl,rfl⟩,rfl⟩
  (by rintro pre _ R ⟨b,a,_,_,_,A,c,_,rfl⟩;exact Gm (m1 (m1 (m1 (m1 m0))))) ?_ ?_ ?_ ?_ (sk:=As func310)
 ·rintro yl pre x X R E hJ;refine pA ?_;refine U ?_;exact⟨X,Sub.refl,hJ,rfl,rfl,rfl,rfl,trivial⟩
 ·rintro yl pre x σ _ R E ⟨⟨b,a,F,S,T,A,c,K,rfl⟩,kJ⟩;obtain⟨kQ,rfl⟩:=kJ.open;have kT:x.length<=14:=kH x (E.subset Zs);have kX:pre.length+1<=s.length/16+1:=by have:=E.length_le;simp at this;omega
  have v:∀rest,sQ s.length ((pre++[x])++rest) [] 0=sQ s.length (x::rest) b a:=by intro rest;rw[aV];exact F (x::rest)
  refine pA ?_;refine U ?_;refine Mm rfl rfl K (λ_ _=>p1 (p1 p0)) Zo rfl rfl (λd f z=>?_);refine U ?_;iterate 3 (refine pA ?_;refine U ?_)
  have B:(b++x).length<=14*(pre++[x]).length:=by simp;omega
  by_cases n:a=0
  ·subst n;iterate 3 (refine pA ?_;refine U ?_)
   refine md (Bl x Zo W _) ?_;obtain⟨q,N⟩:∃q,q=Me (pY x):=⟨_,rfl⟩;rw[<-N];cases o:pY x with
   |none=>
    (have O:q=.tuple #[nI 0,sv [],nI 40]:=by rw[N,o];rfl);subst O;refine U ?_;iterate 3 (refine pA ?_;refine U ?_)
    exact⟨[k4 l 3 [nN 0],k4 k 291 [.slice d (b++x).length f],li 5 1 mI d f (b++x),k4 j 9 [sv s],fz m],.of Zu,rfl,b++x,0,λrest=>by rw[v rest,Cn];simp[o],B,by omega,d,f,z,rfl⟩
   |some y=>
    (obtain⟨g,r⟩:=y;have kY:=Fg o;have O:q=.tuple #[nN g,sv r,nI 0]:=by rw[N,o];rfl);subst O;refine U ?_;iterate 3 (refine pA ?_;refine U ?_)
    by_cases P:s.length<g;·(rw[show decide ((s.length:Int)<(g:Int))=true from Zq];refine U ?_;iterate 3 (refine pA ?_;refine U ?_));exact⟨[k4 l 3 [nN 0],k4 k 291 [.slice d (b++x).length f],li 5 1 mI d f (b++x),k4 j 9 [sv s],fz m],.of Zu,rfl,b++x,0,λrest=>by rw[v rest,Cn];simp[o,P],B,by omega,d,f,z,rfl⟩
    ·(rw[show decide ((s.length:Int)<(g:Int))=false from Zq];refine U ?_;iterate 3 (refine pA ?_;refine U ?_));rw[show(x.length:Int)-(r.length:Int)+(g:Int)=((x.length-r.length+g:Nat):Int) from by omega];refine U ?_;iterate 3 (refine pA ?_;refine U ?_)
     by_cases G:x.length-r.length+g<=(b++x).length
     ·(rw[show decide (((x.length-r.length+g:Nat):Int)<=((b++x).length:Int))=true from aZ Zo];refine U ?_;iterate 3 (refine pA ?_;refine U ?_));have t:x.length-r.length+g<=b.length+x.length:=by simpa using G
      exact⟨[k4 l 3 [nN (x.length-r.length+g)],k4 k 291 [.slice d (b++x).length f],li 5 1 mI d f (b++x),k4 j 9 [sv s],fz m],.of Zu,rfl,b++x,(x.length-r.length+g),λrest=>by rw[v rest,Cn];simp[o,P,t],B,by omega,d,f,z,rfl⟩
     ·(rw[show decide (((x.length-r.length+g:Nat):Int)<=((b++x).length:Int))=false from bx Zo];refine U ?_;iterate 3 (refine pA ?_;refine U ?_));have t:¬x.length-r.length+g<=b.length+x.length:=by simpa using G
      exact⟨[k4 l 3 [nN (x.length-r.length+g)],k4 k 291 [.slice d (b++x).length f],li 5 1 mI d f (b++x),k4 j 9 [sv s],fz m],.of Zu,b++x,(x.length-r.length+g),λrest=>by rw[v rest,Cn];simp[o,P,t],B,by omega,d,f,z,rfl⟩
  ·rw[show((a:Int)==0)=false from by simp;omega];iterate 3 (refine pA ?_;refine U ?_)
   by_cases G:a<=(b++x).length
   ·(rw[show decide ((a:Int)<=((b++x).length:Int))=true from aZ Zo];refine U ?_;iterate 3 (refine pA ?_;refine U ?_));have t:a<=b.length+x.length:=by simpa using G
    exact⟨[k4 l 3 [nN a],k4 k 291 [.slice d (b++x).length f],li 5 1 mI d f (b++x),k4 j 9 [sv s],fz m],.of Zu,rfl,b++x,a,λrest=>by rw[v rest,Cn];simp[n,t],B,by omega,d,f,z,rfl⟩
   ·(rw[show decide ((a:Int)<=((b++x).length:Int))=false from bx Zo];refine U ?_;iterate 3 (refine pA ?_;refine U ?_));have t:¬a<=b.length+x.length:=by simpa using G
    exact⟨[k4 l 3 [nN a],k4 k 291 [.slice d (b++x).length f],li 5 1 mI d f (b++x),k4 j 9 [sv s],fz m],.of Zu,b++x,a,λrest=>by rw[v rest,Cn];simp[n,t],B,by omega,d,f,z,rfl⟩
 ·rintro D xs _ kL ⟨b,a,F,S,T,A,c,K,rfl⟩;have Q:sQ s.length M [] 0=(b,a):=by rw[<-kL];have:=F [];rwa [aP] at this
  rw[Q] at i;refine SC.mL (L':=qj D::([k4 l 3 [nN a],k4 k 291 [.slice A b.length c],li 5 1 mI A c b,k4 j 9 [sv s],fz m]++L)) (λ_ C=>C) ?_;by_cases n:a=0;·subst n;rw[aj (.inl rfl)] at i;refine U ?_;refine kS ?_;refine⟨_,o0,?_⟩;exact lj results271 Zt (Bq (es:=[]) u Zu) ⟨by rw[i]<;>rfl,rfl⟩
  ·refine U ?_;rw[show((a:Int)==0)=false from by simp;omega];refine U ?_;by_cases I:b.length<a;·rw[show decide ((b.length:Int)<(a:Int))=true from Zq];rw[aj (.inr I)] at i;refine U ?_;refine kS ?_;refine⟨_,o0,?_⟩;exact lj results271 Zt (Bq (es:=[]) u Zu) ⟨by rw[i]<;>rfl,rfl⟩
   ·rw[show decide ((b.length:Int)<(a:Int))=false from Zq];rw[ai (by rintro(h|h);exact n h;exact I h)] at i;refine U ?_;refine zi (s:=b) rfl (p9 Zn) rfl rfl rfl ?_;refine U ?_;refine kS ?_;refine⟨_,o0,?_⟩;exact lj results271 Zt (Bq (es:=[]) u Zu) ⟨by rw[i]<;>rfl,rfl⟩
 ·rintro D _ pre _ E ⟨rfl,b,a,F,S,T,A,c,K,rfl⟩;have Q:sQ s.length M [] 0=(b,a):=by obtain⟨rest,e⟩:=E;rw[<-e];exact F rest
  refine Lu ?_;rw[Q] at i;refine SC.mL (L':=qj D::([k4 l 3 [nN a],k4 k 291 [.slice A b.length c],li 5 1 mI A c b,k4 j 9 [sv s],fz m]++L)) (λ_ C=>C) ?_;by_cases n:a=0;·subst n;rw[aj (.inl rfl)] at i;refine U ?_;refine kS ?_;refine⟨_,o0,?_⟩;exact lj results271 Zt (Bq (es:=[]) u Zu) ⟨by rw[i]<;>rfl,rfl⟩
  ·refine U ?_;rw[show((a:Int)==0)=false from by simp;omega];refine U ?_;by_cases I:b.length<a;·rw[show decide ((b.length:Int)<(a:Int))=true from Zq];rw[aj (.inr I)] at i;refine U ?_;refine kS ?_;refine⟨_,o0,?_⟩;exact lj results271 Zt (Bq (es:=[]) u Zu) ⟨by rw[i]<;>rfl,rfl⟩
   ·rw[show decide ((b.length:Int)<(a:Int))=false from Zq];rw[ai (by rintro(h|h);exact n h;exact I h)] at i;refine U ?_;refine zi (s:=b) rfl (p9 Zn) rfl rfl rfl ?_;refine U ?_;refine kS ?_;refine⟨_,o0,?_⟩;exact lj results271 Zt (Bq (es:=[]) u Zu) ⟨by rw[i]<;>rfl,rfl⟩
def sF(p:Nat×kV):List Value:=[nN p.1,sv p.2]
instance:m6 sF 2:=⟨λ_=>rfl,λx v a=>by simp[sF] at a;rcases a with rfl|rfl<;>rfl⟩
def qz(d:Dk)(v:Value):List Value:=[nN d.size,sv d.pU,v]
def Du(d:Dk)(H:kM)(r:Value):Prop:=∃v,r=.agg (qz d v).toArray/\Sl 2 sF H v d.ld
theorem V9(H:kM)(size:Int)(d:-9223372036854775808<=size/\size<=9223372036854775807):Fn prog 93 #[.int .i64 size] H (Du (uK size)):=λW L=>by
 refine enter func93 ?_;refine U ?_;intro e;refine U ?_;have a:uK size=⟨(min (max size 0) 65536).toNat,oV ((min (max size 0) 65536).toNat*16),[]⟩:=rfl;have f:0<=min (max size 0) 65536:=by omega
 have h:min (max size 0) 65536<=65536:=by omega
 generalize min (max size 0) 65536=z at*;obtain⟨k,rfl⟩:∃k:Nat,z=(k:Int):=⟨z.toNat,by omega⟩;rw[bC] at a;rw[show(k:Int)*16=((k*16:Nat):Int) from by omega];refine De mI (0:UInt8) (k*16) rfl rfl Zo Zo rfl rfl rfl rfl rfl (λg=>?_);have b:(oV (k*16)).length=k*16:=by unfold oV;simp
 refine zi (s:=oV (k*16)) (A:=some ⟨g,0,none⟩) (c:=k*16) (by rw[b]<;>rfl) (oG (l:=oV (k*16)) Zn rfl) rfl rfl rfl ?_;refine U ?_;refine kS ?_;rw[a];exact lX (c1 (c1 c0)) results93 (.agg (cs:=qz ⟨k,oV (k*16),[]⟩ (.slice none 0 0)) inferInstance rfl Zn rfl) (λi hl _=>⟨_,rfl,Sl.nil _ _ _⟩)
theorem Oa(s:kV)(d:s.length<=1000000000):Pf prog 231 #[sv s] (nN (nO s)):=λW L=>by
 refine enter func231 ?_;refine U ?_;have c:((s.length:Int)+16-1).tdiv 16=((nO s:Nat):Int):=by unfold nO;rw[show(s.length:Int)+16-1=((s.length+15:Nat):Int) from by omega];rfl
 have e:nO s<=1000000000:=by unfold nO;omega
 refine AW (a:=(s.length:Int)+16-1) (b:=16) rfl rfl Zd (by rw[c];omega) rfl rfl ?_;rw[c];refine U ?_;refine kS ?_;exact lj results231 Zt lv ⟨rfl,rfl⟩
theorem GI(H:kM)(d:Dk)(v:Value)(a:Sl 2 sF H v d.ld)(hl:d.ld.length<=1000000):Fn prog 193 #[.agg (qz d v).toArray] H (Du d):=λW L=>by obtain⟨A,c,rfl,h,b⟩:=a;refine enter func193 ?_;refine U ?_;intro i;refine U ?_;intro j;refine U ?_;refine ov (MV sF H A c d.ld Zo b) ?_;rintro _ _ ⟨e,f,rfl,rfl⟩;simp only[aD];refine U ?_;refine kS ?_;exact lX (c1 (c1 (c1 c0))) results193 (.agg (cs:=qz d (.slice e d.ld.length f)) inferInstance rfl Zn rfl) (λk hl g=>⟨_,rfl,g.sl Zn⟩)
end
end Go.Proofs.YtkbifmngmocjnaaGreatDoor
